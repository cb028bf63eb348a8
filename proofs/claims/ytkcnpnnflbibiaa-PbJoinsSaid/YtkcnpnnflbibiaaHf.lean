/- Copies: nodes. -/
import Derived.Test.YtkcnpnnflbibiaaHc
set_option linter.unusedVariables false
namespace Go.Proofs.Ytkcnpnnflbibiaa
open Go.RowKit

/-- What a copy of a node leaves. -/
def NodIs (x : Nd) (w : World) (e : Ending) (w' : World) : Prop := ∃ A1 c1 A2 c2, e = .returned (.agg #[.string x.op, .string x.name, .slice A1 x.ins.length c1, .string x.out, .slice A2 x.attrs.length c2]) ∧ Slc repStr w' (New w.heap.size w') A1 x.ins.length x.ins ∧ Slc repAt w' (New w.heap.size w') A2 x.attrs.length x.attrs ∧ Below w.heap.size w w'
/-- A list that grows in a cell of the block g. -/
structure CG {α : Type} (ρ : Rep α) (e : TypeId) (w1 wr : World) (g : Nat) (v : Value) (l : List α) (lab : Nat → Nat) : Prop where
  own : OL ρ e lab 1 wr w1.heap.size v l
  fr : Fresh lab wr
  low : ∀ k, k < w1.heap.size → lab k = 0
  only : Only g w1 wr
section
variable {α : Type} {ρ : Rep α} {e : TypeId} {w1 wr w' : World} {g : Nat} {v v' : Value} {l l' : List α} {lab lab' : Nat → Nat}
theorem CG.start (ρ : Rep α) (e : TypeId) (w : World) (g : Nat) : CG ρ e w w g (.slice none 0 0) [] (fun _ => 0) := ⟨ol_nil _ _ _ _ _ _, fresh_none _, fun _ _ => rfl, Only.refl _ _⟩
theorem CG.later (h : CG ρ e w1 wr g v l lab) (hb : Below wr.heap.size wr w') : CG ρ e w1 w' g v l lab :=
  ⟨h.own.below hb, h.fr.more hb.size, h.low, ⟨hb.os.trans h.only.os, hb.tape.trans h.only.tape, hb.output.trans h.only.output, Nat.le_trans h.only.size hb.size, fun k hk hn => (hb.block k (Nat.lt_of_lt_of_le hk h.only.size)).trans (h.only.block k hk hn)⟩⟩
theorem CG.more (h : CG ρ e w1 wr g v l lab) (hg : Grew lab lab' 1 wr w') (ho : OL ρ e lab' 1 w' w1.heap.size v' l') (hlt : g < w1.heap.size) (i : Nat) (u : Value) : CG ρ e w1 (w'.setCell ⟨g, i, none⟩ u) g v' l' lab' :=
  ⟨ho.set_far (by exact hlt) u, fun k hk => hg.fresh k (by simpa using hk), fun k hk => (hg.lab k (Nat.lt_of_lt_of_le hk h.only.size)).trans (h.low k hk), (hg.only h.only (fun k hk => by rw [h.low k hk]; decide)).set_ _ _⟩
theorem CG.row (h : CG ρ e w1 wr g v l lab) (hg : Grew lab lab' 1 wr w') {k : Nat} (hk : k < w1.heap.size) : w'.heap[k]? = wr.heap[k]? :=
  hg.keep k (Nat.lt_of_lt_of_le hk h.only.size) (by rw [h.low k hk]; decide)
end
/-- Behind a copied attribute's tensor. -/
theorem at_made {a : At} {w1 : Nat} {wr w' : World} {lab : Nat → Nat} {Ad Ae Ag : Option Addr} {cd ce cg : Nat} (hfr : Fresh lab wr) (hlo : w1 ≤ wr.heap.size) (h1 : Slc repInt w' (New wr.heap.size w') Ad a.t.dims.length a.t.dims) (h2 : Slc repInt w' (New wr.heap.size w') Ae a.t.data.length a.t.data) (h3 : Slc repInt w' (New wr.heap.size w') Ag a.ints.length a.ints) :
    repAt.R w' (Zl lab w1 w') [.string a.name, .int .i64 a.kind, .int .i64 a.f, .int .i64 a.i, .string a.s, .int .i64 a.t.typ, .slice Ad a.t.dims.length cd, .slice Ae a.t.data.length ce, .slice Ag a.ints.length cg] a :=
  rep_made (w := wr) ⟨_, _, _, rfl, ⟨_, _, _, rfl, h1⟩, ⟨_, _, _, rfl, h2⟩, ⟨_, _, _, rfl, h3⟩⟩ hfr hlo

/-- Behind the copy of a node's inputs. -/
structure CN4 (w w4 : World) (x : Nd) (A1 : Option Addr) (n1 c1 : Nat) (A2 : Option Addr) (n2 c2 : Nat) (A8 : Option Addr) (c8 : Nat) : Prop where
  below : Below w.heap.size w w4
  box : w4.heap[w.heap.size]? = some (.cells #[.string x.op, .string x.name, .slice A1 n1 c1, .string x.out, .slice A2 n2 c2] 67 (0, 0))
  res : w4.heap[w.heap.size + 1]? = some (.cells #[.string ⟨#[]⟩, .string ⟨#[]⟩, .slice none 0 0, .string ⟨#[]⟩, .slice none 0 0] 67 (0, 0))
  out : w4.heap[w.heap.size + 1 + 1]? = some (.cells #[.string x.op, .string x.name, .slice A8 x.ins.length c8, .string x.out, .slice none 0 0] 67 (0, 0))
  ins : Slc repStr w4 (fun k => w.heap.size + 3 ≤ k ∧ k < w4.heap.size) A8 x.ins.length x.ins
  size : w.heap.size + 3 ≤ w4.heap.size
set_option maxRecDepth 100000 in
set_option maxHeartbeats 6400000 in
theorem copyN_any (x : Nd) (w : World) (Z : Nat → Prop) (A1 A2 : Option Addr) (n1 c1 n2 c2 : Nat) (hi : Slc repStr w Z A1 n1 x.ins) (ha : Slc repAt w Z A2 n2 x.attrs) (hZ : ∀ k, Z k → k < w.heap.size) (z1 : n1 * 16 ≤ 140737488351232) (z2 : n2 ≤ 16777216)
    (hok : ∀ a ∈ x.attrs, a.t.dims.length * 8 ≤ 140737488351232 ∧ a.t.data.length * 8 ≤ 140737488351232 ∧ a.ints.length * 8 ≤ 140737488351232) :
    Calls Try.prog 29 #[.agg #[.string x.op, .string x.name, .slice A1 n1 c1, .string x.out, .slice A2 n2 c2]] w (NodIs x w) := by
  obtain ⟨i2, hi2, hz20, hz21, hz22⟩ := info_parts Try.info2
  have HI2 := Lib.hid (show _ ∧ _ ∧ _ ∧ _ from ⟨hi2, hz20, hz21, hz22⟩)
  obtain ⟨i9, hi9, hz90, hz91, hz92⟩ := info_parts Try.info9
  have HI9 := Lib.hid (show _ ∧ _ ∧ _ ∧ _ from ⟨hi9, hz90, hz91, hz92⟩)
  obtain ⟨i88, hi88, hz880, hz881, hz882⟩ := info_parts Try.info88
  have HI88 := Lib.hid (show _ ∧ _ ∧ _ ∧ _ from ⟨hi88, hz880, hz881, hz882⟩)
  have hz2 : ((w.alloc (.cells #[.string x.op, .string x.name, .slice A1 n1 c1, .string x.out, .slice A2 n2 c2] 67)).alloc (.cells #[.string ⟨#[]⟩, .string ⟨#[]⟩, .slice none 0 0, .string ⟨#[]⟩, .slice none 0 0] 67)).heap.size = w.heap.size + 2 := by simp
  have hb2 : Below w.heap.size w (((w.alloc (.cells #[.string x.op, .string x.name, .slice A1 n1 c1, .string x.out, .slice A2 n2 c2] 67)).alloc (.cells #[.string ⟨#[]⟩, .string ⟨#[]⟩, .slice none 0 0, .string ⟨#[]⟩, .slice none 0 0] 67)).alloc (.cells #[.string x.op, .string x.name, .slice none 0 0, .string x.out, .slice none 0 0] 67)) := (((Below.refl _ _).alloc (Nat.le_refl _) _).alloc (by simp) _).alloc (by rw [hz2]; omega) _
  have hz3 : (((w.alloc (.cells #[.string x.op, .string x.name, .slice A1 n1 c1, .string x.out, .slice A2 n2 c2] 67)).alloc (.cells #[.string ⟨#[]⟩, .string ⟨#[]⟩, .slice none 0 0, .string ⟨#[]⟩, .slice none 0 0] 67)).alloc (.cells #[.string x.op, .string x.name, .slice none 0 0, .string x.out, .slice none 0 0] 67)).heap.size = w.heap.size + 3 := by
    rw [show ∀ (x : World) (o : Obj), (x.alloc o).heap.size = x.heap.size + 1 from fun x o => by simp, hz2]
  have hg0 : (((w.alloc (.cells #[.string x.op, .string x.name, .slice A1 n1 c1, .string x.out, .slice A2 n2 c2] 67)).alloc (.cells #[.string ⟨#[]⟩, .string ⟨#[]⟩, .slice none 0 0, .string ⟨#[]⟩, .slice none 0 0] 67)).alloc (.cells #[.string x.op, .string x.name, .slice none 0 0, .string x.out, .slice none 0 0] 67)).heap[w.heap.size]? = some (.cells #[.string x.op, .string x.name, .slice A1 n1 c1, .string x.out, .slice A2 n2 c2] 67 (0, 0)) := (Below.heap_alloc _ _ w.heap.size (by rw [hz2]; omega)).trans ((Below.heap_alloc _ _ w.heap.size (by simp)).trans (heap_alloc_new w _))
  have hg1 : (((w.alloc (.cells #[.string x.op, .string x.name, .slice A1 n1 c1, .string x.out, .slice A2 n2 c2] 67)).alloc (.cells #[.string ⟨#[]⟩, .string ⟨#[]⟩, .slice none 0 0, .string ⟨#[]⟩, .slice none 0 0] 67)).alloc (.cells #[.string x.op, .string x.name, .slice none 0 0, .string x.out, .slice none 0 0] 67)).heap[w.heap.size + 1]? = some (.cells #[.string ⟨#[]⟩, .string ⟨#[]⟩, .slice none 0 0, .string ⟨#[]⟩, .slice none 0 0] 67 (0, 0)) := (Below.heap_alloc _ _ (w.heap.size + 1) (by rw [hz2]; omega)).trans (heap_second w _ _ (w.heap.size + 1) rfl)
  have hg2 : (((w.alloc (.cells #[.string x.op, .string x.name, .slice A1 n1 c1, .string x.out, .slice A2 n2 c2] 67)).alloc (.cells #[.string ⟨#[]⟩, .string ⟨#[]⟩, .slice none 0 0, .string ⟨#[]⟩, .slice none 0 0] 67)).alloc (.cells #[.string x.op, .string x.name, .slice none 0 0, .string x.out, .slice none 0 0] 67)).heap[w.heap.size + 1 + 1]? = some (.cells #[.string x.op, .string x.name, .slice none 0 0, .string x.out, .slice none 0 0] 67 (0, 0)) := by
    have h := heap_alloc_new ((w.alloc (.cells #[.string x.op, .string x.name, .slice A1 n1 c1, .string x.out, .slice A2 n2 c2] 67)).alloc (.cells #[.string ⟨#[]⟩, .string ⟨#[]⟩, .slice none 0 0, .string ⟨#[]⟩, .slice none 0 0] 67)) (.cells #[.string x.op, .string x.name, .slice none 0 0, .string x.out, .slice none 0 0] 67)
    rw [hz2] at h
    exact h
  have m2 : (((w.alloc (.cells #[.string x.op, .string x.name, .slice A1 n1 c1, .string x.out, .slice A2 n2 c2] 67)).alloc (.cells #[.string ⟨#[]⟩, .string ⟨#[]⟩, .slice none 0 0, .string ⟨#[]⟩, .slice none 0 0] 67)).alloc (.cells #[.string x.op, .string x.name, .slice none 0 0, .string x.out, .slice none 0 0] 67)).cell? ⟨w.heap.size + 1 + 1, 2, none⟩ = some (.slice none 0 0) := cell_of_row _ _ 2 _ 67 (0, 0) hg2
  have b2 : (((w.alloc (.cells #[.string x.op, .string x.name, .slice A1 n1 c1, .string x.out, .slice A2 n2 c2] 67)).alloc (.cells #[.string ⟨#[]⟩, .string ⟨#[]⟩, .slice none 0 0, .string ⟨#[]⟩, .slice none 0 0] 67)).alloc (.cells #[.string x.op, .string x.name, .slice none 0 0, .string x.out, .slice none 0 0] 67)).cell? ⟨w.heap.size, 2, none⟩ = some (.slice A1 n1 c1) := cell_of_row _ _ 2 _ 67 (0, 0) hg0
  have HB3 := Lib.hid hb2
  have HG0 := Lib.hid hg0
  have HG1 := Lib.hid hg1
  have HG2 := Lib.hid hg2
  have HZ3 := Lib.hid hz3
  have H1' := Lib.hid (hi.keep (w' := (((w.alloc (.cells #[.string x.op, .string x.name, .slice A1 n1 c1, .string x.out, .slice A2 n2 c2] 67)).alloc (.cells #[.string ⟨#[]⟩, .string ⟨#[]⟩, .slice none 0 0, .string ⟨#[]⟩, .slice none 0 0] 67)).alloc (.cells #[.string x.op, .string x.name, .slice none 0 0, .string x.out, .slice none 0 0] 67))) (Z' := fun k => k < (((w.alloc (.cells #[.string x.op, .string x.name, .slice A1 n1 c1, .string x.out, .slice A2 n2 c2] 67)).alloc (.cells #[.string ⟨#[]⟩, .string ⟨#[]⟩, .slice none 0 0, .string ⟨#[]⟩, .slice none 0 0] 67)).alloc (.cells #[.string x.op, .string x.name, .slice none 0 0, .string x.out, .slice none 0 0] 67)).heap.size) (fun k hk => hb2.block k (hZ k hk)) (fun k hk => Nat.lt_of_lt_of_le (hZ k hk) hb2.size))
  have Ha := Lib.hid ha
  have HZ := Lib.hid hZ
  have HOK := Lib.hid hok
  have hn2 : (n2 : Int) ≤ 9223372036854775807 := by omega
  have L1 := Lib.hid hi.len
  have L2 := Lib.hid ha.len
  clear hb2 hz2 hz3 hg0 hg1 hg2 hi ha hZ hok hi2 hz20 hz21 hz22 hi9 hz90 hz91 hz92 hi88 hz880 hz881 hz882
  go_enter Try.func29, Try.ntmps29
  go_wp2_with (at_builtin; refine wpList_append_n (((w.alloc (.cells #[.string x.op, .string x.name, .slice A1 n1 c1, .string x.out, .slice A2 n2 c2] 67)).alloc (.cells #[.string ⟨#[]⟩, .string ⟨#[]⟩, .slice none 0 0, .string ⟨#[]⟩, .slice none 0 0] 67)).alloc (.cells #[.string x.op, .string x.name, .slice none 0 0, .string x.out, .slice none 0 0] 67)) repStr flat_str rfl (.tmp 14) (.tmp 16) 64 rfl 9 i9 _ 16 Try.underlying64 HI9.out.1 HI9.out.2.1 HI9.out.2.2.1 HI9.out.2.2.2 rfl (by decide) rfl (fun k => k < (((w.alloc (.cells #[.string x.op, .string x.name, .slice A1 n1 c1, .string x.out, .slice A2 n2 c2] 67)).alloc (.cells #[.string ⟨#[]⟩, .string ⟨#[]⟩, .slice none 0 0, .string ⟨#[]⟩, .slice none 0 0] 67)).alloc (.cells #[.string x.op, .string x.name, .slice none 0 0, .string x.out, .slice none 0 0] 67)).heap.size) A1 n1 c1 x.ins rfl H1'.out (fun _ h => h) (by rw [L1.out]; omega) ?_; intro A8 c8 w8 hs8 hb8; have HS8 := Lib.hid hs8; have HB8 := Lib.hid hb8; have g8 := (hb8.block (w.heap.size + 1 + 1) (by rw [HZ3.out]; omega)).trans HG2.out; have HG8 := Lib.hid g8; have s2 : w8.cell? ⟨w.heap.size + 1 + 1, 2, none⟩ = some (.slice none 0 0) := cell_of_row _ _ 2 _ 67 (0, 0) g8; have f2 : w8.frozen? ⟨w.heap.size + 1 + 1, 2, none⟩ = false := (by simp [World.frozen?, g8]); clear hs8 hb8 g8)
  have hcn : CN4 w (w8.setCell ⟨w.heap.size + 1 + 1, 2, none⟩ (.slice A8 x.ins.length c8)) x A1 n1 c1 A2 n2 c2 A8 c8 := by
    have kp : ∀ k, k ≠ w.heap.size + 1 + 1 → (w8.setCell ⟨w.heap.size + 1 + 1, 2, none⟩ (.slice A8 x.ins.length c8)).heap[k]? = w8.heap[k]? := fun k h1 => Below.heap_setCell _ _ _ _ (by dsimp only; omega)
    have z8 := HB8.out.size
    rw [HZ3.out] at z8
    have zz : (w8.setCell ⟨w.heap.size + 1 + 1, 2, none⟩ (.slice A8 x.ins.length c8)).heap.size = w8.heap.size := by simp
    have b8 : Below w.heap.size w w8 := HB3.out.trans (HB8.out.mono HB3.out.size)
    have hs := HS8.out
    simp only [HZ3.out] at hs
    refine ⟨b8.setCell (by dsimp only; omega) _, (kp _ (by omega)).trans ((HB8.out.block _ (by rw [HZ3.out]; omega)).trans HG0.out), (kp _ (by omega)).trans ((HB8.out.block _ (by rw [HZ3.out]; omega)).trans HG1.out), ?_, hs.keep (fun k hk => kp k (by omega)) (fun k hk => by rw [zz]; exact hk), by rw [zz]; exact z8⟩
    have := heap_setCell_same w8 (w.heap.size + 1 + 1) 2 _ 67 (.slice A8 x.ins.length c8) HG8.out
    simpa using this
  clear m2 b2 s2 f2 HG8 HB8 HS8 HB3 HG0 HG1 HG2 HZ3 H1'
  generalize (w8.setCell ⟨w.heap.size + 1 + 1, 2, none⟩ (.slice A8 x.ins.length c8)) = w4 at hcn ⊢
  have HCN := Lib.hid hcn
  have z4 := hcn.size
  have HC0 := Lib.hid (CG.start repAt 88 w4 (w.heap.size + 1 + 1))
  clear hcn
  go_loopw [4, 5] (fun i u5 wr => ∃ k : Nat, k ≤ n2 ∧ i = .int .i64 k ∧ ∃ v lab, CG repAt 88 w4 wr (w.heap.size + 1 + 1) v (x.attrs.take k) lab ∧ wr.heap[w.heap.size + 1 + 1]? = some (.cells #[.string x.op, .string x.name, .slice A8 x.ins.length c8, .string x.out, v] 67 (0, 0))) (fun i _ _ => n2 - (intOf i).toNat)
  case atStart => exact ⟨0, Nat.zero_le _, rfl, _, _, HC0.out, HCN.out.out⟩
  case round =>
    obtain ⟨k, hk, rfl, v, lab, hcg, hrow⟩ := hrel
    have HV := Lib.hid hcg
    have HR := Lib.hid hrow
    have zr := hcg.only.size
    have Hbw := Lib.hid (HCN.out.below.trans (hcg.only.below (B := w.heap.size) (by omega) (by omega)))
    have HBx := Lib.hid ((hcg.only.block w.heap.size (by omega) (by omega)).trans HCN.out.box)
    obtain ⟨A3, c3, h3⟩ := hcg.own.form
    have hlk : (x.attrs.take k).length = k := by rw [List.length_take]; have := L2.out; omega
    rw [hlk] at h3
    subst h3
    have HLK := Lib.hid hlk
    have b4 : wr.cell? ⟨w.heap.size, 4, none⟩ = some (.slice A2 n2 c2) := cell_of_row _ _ 4 _ 67 (0, 0) HBx.out
    clear hlk hcg hrow
    by_cases hlt : k < n2
    · obtain ⟨bd, od, a, cs, hA, hbZ, hs, hR, hc⟩ := Ha.out.get hlt
      obtain ⟨d, e, g, rfl, h3, h4, h5⟩ := hR
      obtain ⟨Ad, nd, cd, rfl, h3⟩ := h3
      obtain ⟨Ae, ne, ce, rfl, h4⟩ := h4
      obtain ⟨Ag, ng, cg, rfl, h5⟩ := h5
      have y0 : wr.cell? ⟨bd, od + k * 9, none⟩ = some (.string a.name) := (Hbw.out.cell (p := ⟨bd, od + k * 9, none⟩) (by exact HZ.out _ hbZ)).trans (hc 0 (by decide))
      have y1 : wr.cell? ⟨bd, od + k * 9 + 1, none⟩ = some (.int .i64 a.kind) := (Hbw.out.cell (p := ⟨bd, od + k * 9 + 1, none⟩) (by exact HZ.out _ hbZ)).trans (hc 1 (by decide))
      have y2 : wr.cell? ⟨bd, od + k * 9 + 2, none⟩ = some (.int .i64 a.f) := (Hbw.out.cell (p := ⟨bd, od + k * 9 + 2, none⟩) (by exact HZ.out _ hbZ)).trans (hc 2 (by decide))
      have y3 : wr.cell? ⟨bd, od + k * 9 + 3, none⟩ = some (.int .i64 a.i) := (Hbw.out.cell (p := ⟨bd, od + k * 9 + 3, none⟩) (by exact HZ.out _ hbZ)).trans (hc 3 (by decide))
      have y4 : wr.cell? ⟨bd, od + k * 9 + 4, none⟩ = some (.string a.s) := (Hbw.out.cell (p := ⟨bd, od + k * 9 + 4, none⟩) (by exact HZ.out _ hbZ)).trans (hc 4 (by decide))
      have y5 : wr.cell? ⟨bd, od + k * 9 + 5, none⟩ = some (.int .i64 a.t.typ) := (Hbw.out.cell (p := ⟨bd, od + k * 9 + 5, none⟩) (by exact HZ.out _ hbZ)).trans (hc 5 (by decide))
      have y6 : wr.cell? ⟨bd, od + k * 9 + 6, none⟩ = some (.slice Ad nd cd) := (Hbw.out.cell (p := ⟨bd, od + k * 9 + 6, none⟩) (by exact HZ.out _ hbZ)).trans (hc 6 (by decide))
      have y7 : wr.cell? ⟨bd, od + k * 9 + 7, none⟩ = some (.slice Ae ne ce) := (Hbw.out.cell (p := ⟨bd, od + k * 9 + 7, none⟩) (by exact HZ.out _ hbZ)).trans (hc 7 (by decide))
      have y8 : wr.cell? ⟨bd, od + k * 9 + 8, none⟩ = some (.slice Ag ng cg) := (Hbw.out.cell (p := ⟨bd, od + k * 9 + 8, none⟩) (by exact HZ.out _ hbZ)).trans (hc 8 (by decide))
      have lbd := HZ.out _ hbZ
      have Ht := Lib.hid (show x.attrs.take k ++ [a] = x.attrs.take (k + 1) by rw [List.take_add_one, hs]; rfl)
      obtain ⟨o1, o2, o3⟩ := HOK.out a (List.mem_of_getElem? hs)
      subst hA
      have hbt : Below w.heap.size w (wr.alloc (.cells #[.string a.name, .int .i64 a.kind, .int .i64 a.f, .int .i64 a.i, .string a.s, .int .i64 a.t.typ, .slice Ad nd cd, .slice Ae ne ce, .slice Ag ng cg] 88)) := Hbw.out.alloc Hbw.out.size _
      have HT := Lib.hid (copyT_any a.t (wr.alloc (.cells #[.string a.name, .int .i64 a.kind, .int .i64 a.f, .int .i64 a.i, .string a.s, .int .i64 a.t.typ, .slice Ad nd cd, .slice Ae ne ce, .slice Ag ng cg] 88)) Z Ad Ae nd cd ne ce (h3.keep (fun k hk => hbt.block k (HZ.out k hk)) (fun _ h => h)) (h4.keep (fun k hk => hbt.block k (HZ.out k hk)) (fun _ h => h)) (fun k hk => Nat.lt_of_lt_of_le (HZ.out k hk) hbt.size) (by rw [← h3.len]; exact o1) (by rw [← h4.len]; exact o2))
      have H5 := Lib.hid h5
      have L5 := Lib.hid h5.len
      have o3' : ng * 8 ≤ 140737488351232 := by rw [← h5.len]; exact o3
      have Hbt := Lib.hid hbt
      have b4t : (wr.alloc (.cells #[.string a.name, .int .i64 a.kind, .int .i64 a.f, .int .i64 a.i, .string a.s, .int .i64 a.t.typ, .slice Ad nd cd, .slice Ae ne ce, .slice Ag ng cg] 88)).cell? ⟨w.heap.size, 4, none⟩ = some (.slice (some ⟨bd, od, none⟩) n2 c2) := (World.cell?_alloc_lt wr _ _ (by dsimp only; omega)).trans b4
      have y5t : (wr.alloc (.cells #[.string a.name, .int .i64 a.kind, .int .i64 a.f, .int .i64 a.i, .string a.s, .int .i64 a.t.typ, .slice Ad nd cd, .slice Ae ne ce, .slice Ag ng cg] 88)).cell? ⟨bd, od + k * 9 + 5, none⟩ = some (.int .i64 a.t.typ) := (World.cell?_alloc_lt wr _ _ (by dsimp only; omega)).trans y5
      have y6t : (wr.alloc (.cells #[.string a.name, .int .i64 a.kind, .int .i64 a.f, .int .i64 a.i, .string a.s, .int .i64 a.t.typ, .slice Ad nd cd, .slice Ae ne ce, .slice Ag ng cg] 88)).cell? ⟨bd, od + k * 9 + 6, none⟩ = some (.slice Ad nd cd) := (World.cell?_alloc_lt wr _ _ (by dsimp only; omega)).trans y6
      have y7t : (wr.alloc (.cells #[.string a.name, .int .i64 a.kind, .int .i64 a.f, .int .i64 a.i, .string a.s, .int .i64 a.t.typ, .slice Ad nd cd, .slice Ae ne ce, .slice Ag ng cg] 88)).cell? ⟨bd, od + k * 9 + 7, none⟩ = some (.slice Ae ne ce) := (World.cell?_alloc_lt wr _ _ (by dsimp only; omega)).trans y7
      clear hs hc h3 h4 h5 o1 o2 o3 hbt
      go_wp2_with fail
      refine HT.out.mono ?_
      rintro e wa ⟨T1, t1, T2, t2, rfl, hs1, hs2, hba⟩
      have za := hba.size
      have zt : (wr.alloc (.cells #[.string a.name, .int .i64 a.kind, .int .i64 a.f, .int .i64 a.i, .string a.s, .int .i64 a.t.typ, .slice Ad nd cd, .slice Ae ne ce, .slice Ag ng cg] 88)).heap.size = wr.heap.size + 1 := by simp
      rw [zt] at za
      have hrow := (hba.block wr.heap.size (by rw [zt]; omega)).trans (heap_alloc_new wr (.cells #[.string a.name, .int .i64 a.kind, .int .i64 a.f, .int .i64 a.i, .string a.s, .int .i64 a.t.typ, .slice Ad nd cd, .slice Ae ne ce, .slice Ag ng cg] 88))
      have v5 := cell_of_row _ _ 5 _ 88 (0, 0) hrow
      have v6 := cell_of_row _ _ 6 _ 88 (0, 0) hrow
      have v7 := cell_of_row _ _ 7 _ 88 (0, 0) hrow
      have v8 := cell_of_row _ _ 8 _ 88 (0, 0) hrow
      simp only [List.getElem?_toArray, List.getElem?_cons_zero, List.getElem?_cons_succ] at v5 v6 v7 v8
      have hf : ∀ i, wa.frozen? ⟨wr.heap.size, i, none⟩ = false := fun i => by simp [World.frozen?, hrow]
      have f5 := hf 5
      have f6 := hf 6
      have f7 := hf 7
      have f8 := hf 8
      have HBA := Lib.hid hba
      have HS1 := Lib.hid hs1
      have HS2 := Lib.hid hs2
      have HRow := Lib.hid hrow
      have HZt := Lib.hid zt
      clear hf hba hs1 hs2 hrow zt b4t y5t y6t y7t
      go_wp2_with fail
      have hrx : ((((wa.setCell ⟨wr.heap.size, 5, none⟩ (.int .i64 a.t.typ)).setCell ⟨wr.heap.size, 6, none⟩ (.slice T1 a.t.dims.length t1)).setCell ⟨wr.heap.size, 7, none⟩ (.slice T2 a.t.data.length t2)).setCell ⟨wr.heap.size, 8, none⟩ (.slice none 0 0)).heap[wr.heap.size]? = some (.cells #[.string a.name, .int .i64 a.kind, .int .i64 a.f, .int .i64 a.i, .string a.s, .int .i64 a.t.typ, .slice T1 a.t.dims.length t1, .slice T2 a.t.data.length t2, .slice none 0 0] 88 (0, 0)) := by
        have := setFrom_heap 88 wr.heap.size [.int .i64 a.t.typ, .slice T1 a.t.dims.length t1, .slice T2 a.t.data.length t2, .slice none 0 0] 5 wa _ HRow.out
        simpa [putAll, setFrom] using this
      have kpx : ∀ k, k ≠ wr.heap.size → ((((wa.setCell ⟨wr.heap.size, 5, none⟩ (.int .i64 a.t.typ)).setCell ⟨wr.heap.size, 6, none⟩ (.slice T1 a.t.dims.length t1)).setCell ⟨wr.heap.size, 7, none⟩ (.slice T2 a.t.data.length t2)).setCell ⟨wr.heap.size, 8, none⟩ (.slice none 0 0)).heap[k]? = wa.heap[k]? := (setFrom_keep wr.heap.size [.int .i64 a.t.typ, .slice T1 a.t.dims.length t1, .slice T2 a.t.data.length t2, .slice none 0 0] 5 wa).1
      have zx : ((((wa.setCell ⟨wr.heap.size, 5, none⟩ (.int .i64 a.t.typ)).setCell ⟨wr.heap.size, 6, none⟩ (.slice T1 a.t.dims.length t1)).setCell ⟨wr.heap.size, 7, none⟩ (.slice T2 a.t.data.length t2)).setCell ⟨wr.heap.size, 8, none⟩ (.slice none 0 0)).heap.size = wa.heap.size := (setFrom_keep wr.heap.size [.int .i64 a.t.typ, .slice T1 a.t.dims.length t1, .slice T2 a.t.data.length t2, .slice none 0 0] 5 wa).2.1
      have hbwa : Below wr.heap.size wr wa := ((Below.refl _ _).alloc (Nat.le_refl _) _).trans (HBA.out.mono (by rw [HZt.out]; omega))
      have hbx : Below wr.heap.size wr ((((wa.setCell ⟨wr.heap.size, 5, none⟩ (.int .i64 a.t.typ)).setCell ⟨wr.heap.size, 6, none⟩ (.slice T1 a.t.dims.length t1)).setCell ⟨wr.heap.size, 7, none⟩ (.slice T2 a.t.data.length t2)).setCell ⟨wr.heap.size, 8, none⟩ (.slice none 0 0)) := hbwa.trans (setFrom_below (Nat.le_refl _) [.int .i64 a.t.typ, .slice T1 a.t.dims.length t1, .slice T2 a.t.data.length t2, .slice none 0 0] 5 wa)
      have hs1 : Slc repInt ((((wa.setCell ⟨wr.heap.size, 5, none⟩ (.int .i64 a.t.typ)).setCell ⟨wr.heap.size, 6, none⟩ (.slice T1 a.t.dims.length t1)).setCell ⟨wr.heap.size, 7, none⟩ (.slice T2 a.t.data.length t2)).setCell ⟨wr.heap.size, 8, none⟩ (.slice none 0 0)) (fun k => wr.heap.size < k ∧ k < ((((wa.setCell ⟨wr.heap.size, 5, none⟩ (.int .i64 a.t.typ)).setCell ⟨wr.heap.size, 6, none⟩ (.slice T1 a.t.dims.length t1)).setCell ⟨wr.heap.size, 7, none⟩ (.slice T2 a.t.data.length t2)).setCell ⟨wr.heap.size, 8, none⟩ (.slice none 0 0)).heap.size) T1 a.t.dims.length a.t.dims := HS1.out.keep (fun k hk => kpx k (by have := hk.1; rw [HZt.out] at this; omega)) (fun k hk => ⟨by have := hk.1; rw [HZt.out] at this; omega, by rw [zx]; exact hk.2⟩)
      have hs2 : Slc repInt ((((wa.setCell ⟨wr.heap.size, 5, none⟩ (.int .i64 a.t.typ)).setCell ⟨wr.heap.size, 6, none⟩ (.slice T1 a.t.dims.length t1)).setCell ⟨wr.heap.size, 7, none⟩ (.slice T2 a.t.data.length t2)).setCell ⟨wr.heap.size, 8, none⟩ (.slice none 0 0)) (fun k => wr.heap.size < k ∧ k < ((((wa.setCell ⟨wr.heap.size, 5, none⟩ (.int .i64 a.t.typ)).setCell ⟨wr.heap.size, 6, none⟩ (.slice T1 a.t.dims.length t1)).setCell ⟨wr.heap.size, 7, none⟩ (.slice T2 a.t.data.length t2)).setCell ⟨wr.heap.size, 8, none⟩ (.slice none 0 0)).heap.size) T2 a.t.data.length a.t.data := HS2.out.keep (fun k hk => kpx k (by have := hk.1; rw [HZt.out] at this; omega)) (fun k hk => ⟨by have := hk.1; rw [HZt.out] at this; omega, by rw [zx]; exact hk.2⟩)
      rw [← zx] at za
      clear v5 v6 v7 v8 f5 f6 f7 f8 HBA HS1 HS2 HRow kpx zx hbwa HT Hbt
      generalize ((((wa.setCell ⟨wr.heap.size, 5, none⟩ (.int .i64 a.t.typ)).setCell ⟨wr.heap.size, 6, none⟩ (.slice T1 a.t.dims.length t1)).setCell ⟨wr.heap.size, 7, none⟩ (.slice T2 a.t.data.length t2)).setCell ⟨wr.heap.size, 8, none⟩ (.slice none 0 0)) = wx at hrx hbx hs1 hs2 za ⊢
      have HBX := Lib.hid hbx
      have HS1 := Lib.hid hs1
      have HS2 := Lib.hid hs2
      have HRX := Lib.hid hrx
      have t8 : wx.cell? ⟨wr.heap.size, 8, none⟩ = some (.slice none 0 0) := cell_of_row _ _ 8 _ 88 (0, 0) hrx
      have ft : wx.frozen? ⟨wr.heap.size, 8, none⟩ = false := by simp [World.frozen?, hrx]
      have x4 : wx.cell? ⟨w.heap.size, 4, none⟩ = some (.slice (some ⟨bd, od, none⟩) n2 c2) := (hbx.cell (by dsimp only; omega)).trans b4
      have s8 : wx.cell? ⟨bd, od + k * 9 + 8, none⟩ = some (.slice Ag ng cg) := (hbx.cell (by dsimp only; omega)).trans y8
      have H5x := Lib.hid (H5.out.keep (w' := wx.drewN 1) (Z' := fun k => k < wx.heap.size) (fun k hk => (hbx.block k (by have := HZ.out k hk; omega)).trans (Hbw.out.block k (HZ.out k hk))) (fun k hk => by have := HZ.out k hk; omega))
      clear hrx hbx hs1 hs2 y0 y1 y2 y3 y4 y5 y6 y7 y8 b4
      first | (go_region_law (first
        | (refine step_append_n (wx.drewN 1) repInt flat_int rfl (.tmp 41) (.tmp 47) 45 rfl 2 i2 _ 8 Try.underlying45 HI2.out.1 HI2.out.2.1 HI2.out.2.2.1 HI2.out.2.2.2 rfl (by decide) rfl (fun k => k < wx.heap.size) Ag ng cg a.ints rfl H5x.out (fun _ h => h) (by rw [L5.out]; omega) ?_; intro A7 c7 w7 hs7 hb7; have u8 : w7.cell? ⟨wr.heap.size, 8, none⟩ = some (.slice none 0 0) := (hb7.cell (by exact za)).trans t8; have g7 := (hb7.block wr.heap.size (by exact za)).trans HRX.out; have fu : w7.frozen? ⟨wr.heap.size, 8, none⟩ = false := (by simp [World.frozen?, g7]); have HG7 := Lib.hid g7; have HS7 := Lib.hid hs7; have HB7 := Lib.hid hb7; clear hs7 hb7 g7))) | fail
      all_goals
        have hr7 : (w7.setCell ⟨wr.heap.size, 8, none⟩ (.slice A7 a.ints.length c7)).heap[wr.heap.size]? = some (.cells #[.string a.name, .int .i64 a.kind, .int .i64 a.f, .int .i64 a.i, .string a.s, .int .i64 a.t.typ, .slice T1 a.t.dims.length t1, .slice T2 a.t.data.length t2, .slice A7 a.ints.length c7] 88 (0, 0)) := by
          have := heap_setCell_same w7 wr.heap.size 8 _ 88 (.slice A7 a.ints.length c7) HG7.out
          simpa using this
        have kp7 : ∀ k, k ≠ wr.heap.size → (w7.setCell ⟨wr.heap.size, 8, none⟩ (.slice A7 a.ints.length c7)).heap[k]? = w7.heap[k]? := fun k h1 => Below.heap_setCell _ _ _ _ (by dsimp only; omega)
        have zz7 : (w7.setCell ⟨wr.heap.size, 8, none⟩ (.slice A7 a.ints.length c7)).heap.size = w7.heap.size := by simp
        have zx7 : wx.heap.size ≤ w7.heap.size := HB7.out.size
        have hb7 : Below wr.heap.size wr (w7.setCell ⟨wr.heap.size, 8, none⟩ (.slice A7 a.ints.length c7)) := (HBX.out.trans ((below_drewN (Below.refl _ _) 1).trans (HB7.out.mono (show wr.heap.size ≤ wx.heap.size by omega)))).setCell (Nat.le_refl _) _
        have hr9 := at_made (a := a) (w1 := w4.heap.size) (wr := wr) (w' := (w7.setCell ⟨wr.heap.size, 8, none⟩ (.slice A7 a.ints.length c7))) (lab := lab) (cd := t1) (ce := t2) (cg := c7) HV.out.fr zr
          (HS1.out.keep (fun k hk => (kp7 k (by omega)).trans (HB7.out.block k hk.2)) (fun k hk => ⟨by omega, by rw [zz7]; omega⟩))
          (HS2.out.keep (fun k hk => (kp7 k (by omega)).trans (HB7.out.block k hk.2)) (fun k hk => ⟨by omega, by rw [zz7]; omega⟩))
          (HS7.out.keep (fun k hk => kp7 k (by have h1 : wx.heap.size ≤ k := hk.1; omega)) (fun k hk => ⟨by have h1 : wx.heap.size ≤ k := hk.1; omega, by rw [zz7]; exact hk.2⟩))
        have HV9 := Lib.hid (HV.out.later hb7)
        have z9 : w4.heap.size ≤ (w7.setCell ⟨wr.heap.size, 8, none⟩ (.slice A7 a.ints.length c7)).heap.size := by rw [zz7]; omega
        have hg9 := (hb7.block (w.heap.size + 1 + 1) (by omega)).trans HR.out
        clear kp7 zz7 zx7 hb7 u8 fu t8 ft x4 s8 HG7 HS7 HB7
        generalize (w7.setCell ⟨wr.heap.size, 8, none⟩ (.slice A7 a.ints.length c7)) = w9 at hr7 hr9 HV9 z9 hg9 ⊢
        have HR9 := Lib.hid hr9
        have HG9 := Lib.hid hg9
        have c90 := cell_of_row _ _ 0 _ 88 (0, 0) hr7
        have c91 := cell_of_row _ _ 1 _ 88 (0, 0) hr7
        have c92 := cell_of_row _ _ 2 _ 88 (0, 0) hr7
        have c93 := cell_of_row _ _ 3 _ 88 (0, 0) hr7
        have c94 := cell_of_row _ _ 4 _ 88 (0, 0) hr7
        have c95 := cell_of_row _ _ 5 _ 88 (0, 0) hr7
        have c96 := cell_of_row _ _ 6 _ 88 (0, 0) hr7
        have c97 := cell_of_row _ _ 7 _ 88 (0, 0) hr7
        have c98 := cell_of_row _ _ 8 _ 88 (0, 0) hr7
        simp only [List.getElem?_toArray, List.getElem?_cons_zero, List.getElem?_cons_succ] at c90 c91 c92 c93 c94 c95 c96 c97 c98
        have g4 : w9.cell? ⟨w.heap.size + 1 + 1, 4, none⟩ = some (.slice A3 k c3) := cell_of_row _ _ 4 _ 67 (0, 0) hg9
        clear hr7 hr9 hg9
        go_wp2_with (at_builtin; refine wpList_append_o w9 repAt a [.string a.name, .int .i64 a.kind, .int .i64 a.f, .int .i64 a.i, .string a.s, .int .i64 a.t.typ, .slice T1 a.t.dims.length t1, .slice T2 a.t.data.length t2, .slice A7 a.ints.length c7] rfl (.tmp 51) (.tmp 53) 65 rfl 88 i88 _ 136 Try.underlying65 HI88.out.1 HI88.out.2.1 HI88.out.2.2.1 HI88.out.2.2.2 rfl (by decide) (by decide) lab 1 (by decide) w4.heap.size (.slice A3 k c3) (x.attrs.take k) rfl HV9.out.own HV9.out.fr HR9.out w9.heap.size rfl rfl (by rw [HLK.out]; omega) z9 ?_; intro v' wz lab' hoz hgz; obtain ⟨Aw, mw, cw, hvw⟩ : ∃ A m c, v' = .slice A m c := (by obtain ⟨A, c, e⟩ := OL.form hoz; exact ⟨A, _, c, e⟩); subst hvw; have gz := (HV9.out.row hgz (k := w.heap.size + 1 + 1) (by omega)).trans HG9.out; have q4 : wz.cell? ⟨w.heap.size + 1 + 1, 4, none⟩ = some (.slice A3 k c3) := cell_of_row _ _ 4 _ 67 (0, 0) gz; have qf : wz.frozen? ⟨w.heap.size + 1 + 1, 4, none⟩ = false := (by simp [World.frozen?, gz]); have HVz := Lib.hid (HV9.out.more hgz (Ht.out ▸ hoz) (by omega) 4 (.slice Aw mw cw)); have HRz := Lib.hid (heap_setCell_same wz (w.heap.size + 1 + 1) 4 _ 67 (.slice Aw mw cw) gz); clear hoz hgz gz)
        go_roundw
        case rel => exact ⟨k + 1, by omega, by go_num, _, _, HVz.out, by simpa using HRz.out⟩
        case measure => simp [intOf]; omega
    · obtain rfl : k = n2 := by omega
      have hall : x.attrs.take k = x.attrs := by rw [← L2.out, List.take_length]
      have HVf := Lib.hid (hall ▸ HV.out)
      have hrs := (HV.out.only.block (w.heap.size + 1) (by omega) (by omega)).trans HCN.out.res
      have HRs := Lib.hid hrs
      have p0 := cell_of_row _ _ 0 _ 67 (0, 0) HR.out
      have p1 := cell_of_row _ _ 1 _ 67 (0, 0) HR.out
      have p2 := cell_of_row _ _ 2 _ 67 (0, 0) HR.out
      have p3 := cell_of_row _ _ 3 _ 67 (0, 0) HR.out
      have p4 := cell_of_row _ _ 4 _ 67 (0, 0) HR.out
      have s0 := cell_of_row _ _ 0 _ 67 (0, 0) hrs
      have s1 := cell_of_row _ _ 1 _ 67 (0, 0) hrs
      have s2 := cell_of_row _ _ 2 _ 67 (0, 0) hrs
      have s3 := cell_of_row _ _ 3 _ 67 (0, 0) hrs
      have s4 := cell_of_row _ _ 4 _ 67 (0, 0) hrs
      simp only [List.getElem?_toArray, List.getElem?_cons_zero, List.getElem?_cons_succ] at p0 p1 p2 p3 p4 s0 s1 s2 s3 s4
      have hf : ∀ i, wr.frozen? ⟨w.heap.size + 1, i, none⟩ = false := fun i => by simp [World.frozen?, hrs]
      have e0 := hf 0
      have e1 := hf 1
      have e2 := hf 2
      have e3 := hf 3
      have e4 := hf 4
      clear hf hrs hall
      go_wp2
      have rf : (setFrom wr (w.heap.size + 1) 0 [.string x.op, .string x.name, .slice A8 x.ins.length c8, .string x.out, .slice A3 k c3]).heap[w.heap.size + 1]? = some (.cells #[.string x.op, .string x.name, .slice A8 x.ins.length c8, .string x.out, .slice A3 k c3] 67 (0, 0)) := setFrom_heap 67 (w.heap.size + 1) [.string x.op, .string x.name, .slice A8 x.ins.length c8, .string x.out, .slice A3 k c3] 0 wr _ HRs.out
      obtain ⟨kf, zf, _⟩ := setFrom_keep (w.heap.size + 1) [.string x.op, .string x.name, .slice A8 x.ins.length c8, .string x.out, .slice A3 k c3] 0 wr
      have bf : Below w.heap.size w (setFrom wr (w.heap.size + 1) 0 [.string x.op, .string x.name, .slice A8 x.ins.length c8, .string x.out, .slice A3 k c3]) := Hbw.out.trans (setFrom_below (by omega) _ _ _)
      have hsa := HVf.out.own.isSlc (by decide)
      obtain ⟨A5, n5, c5, e5, hs5⟩ := hsa
      simp only [Value.slice.injEq] at e5
      obtain ⟨rfl, rfl, rfl⟩ := e5
      refine bodyPost_ret (results_cell_row rfl _ _ (w.heap.size + 1) 67 _ (0, 0) _ rfl rf Try.underlying67 rfl (by kernel_rfl)) rfl ?_
      show NodIs x w _ (setFrom wr (w.heap.size + 1) 0 [.string x.op, .string x.name, .slice A8 x.ins.length c8, .string x.out, .slice A3 k c3])
      refine ⟨A8, c8, A3, c3, by rw [L2.out], ?_, ?_, bf⟩
      · exact HCN.out.ins.keep (fun k hk => (kf k (by omega)).trans (HV.out.only.block k hk.2 (by omega))) (fun k hk => ⟨by omega, by rw [zf]; omega⟩)
      · rw [L2.out]
        exact hs5.keep (fun k hk => kf k (by omega)) (fun k hk => ⟨by omega, by rw [zf]; exact hk.2⟩)
end Go.Proofs.Ytkcnpnnflbibiaa
