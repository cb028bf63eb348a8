import Derived.Test.YtbilddeepnnogaaGreatDoorBam
import Derived.Shelf.SlicesE.Clone
import Derived.LoopN
import Derived.Deep.OwnRows
import Derived.BigQuiet
import Derived.Shelf.Strings.Split
import Derived.Shelf.Strings.Cut
import Derived.Deep.RegionHeld3
set_option linter.unusedVariables false
set_option linter.unusedSimpArgs false
/- The library's functions, as they lie in this program: copies of slices. -/
section
set_option linter.unusedVariables false
namespace Go.Proofs.YtbilddeepnnogaaGreatDoor
open Go.RowKit Go.Shelf

/-- The numbers of slices.Clone, which is f, at slices t of e. -/
def renC (f t e : Nat) : Ren := ⟨fun x => match x with | 41 => f | n => n, fun x => match x with | 22 => t | 23 => e | n => n, fun n => n⟩
set_option maxRecDepth 100000 in
theorem lay65 : SlLaysE0.n41 Tryz.prog (renC 65 23 3) := by
  constructor
  case f41 => exact ⟨Tryz.f65.name, by kernel_rfl, by kernel_rfl⟩
  all_goals first | kernel_rfl | exact fun _ => by kernel_rfl
set_option maxRecDepth 100000 in
theorem lay73 : SlLaysE0.n41 Tryz.prog (renC 73 34 9) := by
  constructor
  case f41 => exact ⟨Tryz.f73.name, by kernel_rfl, by kernel_rfl⟩
  all_goals first | kernel_rfl | exact fun _ => by kernel_rfl
set_option maxRecDepth 100000 in
theorem lay74 : SlLaysE0.n41 Tryz.prog (renC 74 35 103) := by
  constructor
  case f41 => exact ⟨Tryz.f74.name, by kernel_rfl, by kernel_rfl⟩
  all_goals first | kernel_rfl | exact fun _ => by kernel_rfl
set_option maxRecDepth 100000 in
theorem lay75 : SlLaysE0.n41 Tryz.prog (renC 75 22 2) := by
  constructor
  case f41 => exact ⟨Tryz.f75.name, by kernel_rfl, by kernel_rfl⟩
  all_goals first | kernel_rfl | exact fun _ => by kernel_rfl
set_option maxRecDepth 100000 in
theorem lay119 : SlLaysE0.n41 Tryz.prog (renC 119 31 71) := by
  constructor
  case f41 => exact ⟨Tryz.f119.name, by kernel_rfl, by kernel_rfl⟩
  all_goals first | kernel_rfl | exact fun _ => by kernel_rfl
set_option maxRecDepth 100000 in
theorem lay194 : SlLaysE0.n41 Tryz.prog (renC 194 29 28) := by
  constructor
  case f41 => exact ⟨Tryz.f194.name, by kernel_rfl, by kernel_rfl⟩
  all_goals first | kernel_rfl | exact fun _ => by kernel_rfl

/-- What a copy of a list leaves. -/
def CloneIs {α : Type} (ρ : Rep α) (e : TypeId) (Z : Nat → Prop) (w : World) (n : Nat) (l : List α) (v : Ending) (w' : World) : Prop :=
  ∃ A c, v = .returned (.slice A n c) ∧ OwnL ρ e w' w.heap.size Z (.slice A n c) l ∧ Below w.heap.size w w'
theorem clone_slc {α : Type} (ρ : Rep α) (f t e size bytes : Nat) (L : SlLaysE0.n41 Tryz.prog (renC f t e)) (z : Value) (hi : (Tryz.prog.info? e).map (fun i => (i.zero, i.size, i.bytes)) = some (some z, size, bytes))
    (hzs : z.cells.size = size) (hsz : 0 < size) (hz : ∀ w, (Go.sizeOf e).run Tryz.prog w = .ok size w) (hρ : ρ.sz = size) (w : World) (Z : Nat → Prop) (A : Option Addr) (n c : Nat) (l : List α) (h : Slc ρ w Z A n l)
    (hZ : ∀ k, Z k → k < w.heap.size) (hA : A = none ∨ 0 < n) (hbig : n * bytes ≤ 140737488355328) : Calls Tryz.prog f #[.slice A n c] w (CloneIs ρ e Z w n l) := by
  rcases Nat.eq_zero_or_pos n with h0 | h0
  · subst h0
    obtain rfl : A = none := hA.resolve_right (by omega)
    have hl : l = [] := List.eq_nil_of_length_eq_zero h.len
    subst hl
    refine (AnyE.slices_Clone_nil L 0 c w).mono ?_
    rintro e w' ⟨rfl, rfl⟩
    exact ⟨_, _, rfl, ownL_nil, Below.refl _ _⟩
  · obtain ⟨i0, hi0, hz0, hz1, hz2⟩ := info_parts hi
    obtain ⟨xs, hrd, hone, hr⟩ := h.cells hZ
    have hm := h.small
    obtain ⟨b, off, rfl, hb, _⟩ := h.at_ h0
    refine (AnyE.slices_Clone L i0 z size bytes hi0 hz0 hz1 hz2 hzs hsz hz b off n c xs w (by rw [hrd.1, hρ]) hm hbig (fun j u hj => ?_) hone).mono ?_
    · obtain ⟨ad, e1, _, hcell⟩ := hrd.2 (by omega)
      cases e1
      have h5 := hcell j u hj
      rw [Addr.add_lit] at h5
      exact h5
    · rintro e w' ⟨v, rfl, hown, hne, hb⟩
      rcases hown.2 with ⟨rfl, h1⟩ | ⟨g, cap, cur, rfl, hg⟩
      · exact absurd rfl hne
      · refine ⟨_, _, rfl, ⟨⟨xs, ?_, fun j x hj => ?_⟩, by rw [h.len]; exact hm, fun e0 => by rw [e0] at h; have := h.len; simp at this; omega⟩, hb⟩
        · rw [h.len, hρ]; exact hown
        · obtain ⟨cs, h1, h2⟩ := hr j x hj
          exact ⟨cs, ρ.keep h1 (fun k hk => hb.block k (hZ k hk)) (fun _ h => h), h2⟩
/-- A copy of a list in memory, by its value. -/
def CloneV {α : Type} (ρ : Rep α) (e : TypeId) (Z : Nat → Prop) (w : World) (l : List α) (v : Ending) (w' : World) : Prop :=
  ∃ A c, v = .returned (.slice A l.length c) ∧ OwnL ρ e w' w.heap.size Z (.slice A l.length c) l ∧ Below w.heap.size w w'
theorem clone_v {α : Type} {ρ : Rep α} {f t e size bytes : Nat} (L : SlLaysE0.n41 Tryz.prog (renC f t e)) (z : Value) (hi : (Tryz.prog.info? e).map (fun i => (i.zero, i.size, i.bytes)) = some (some z, size, bytes))
    (hzs : z.cells.size = size) (hsz : 0 < size) (hz : ∀ w, (Go.sizeOf e).run Tryz.prog w = .ok size w) (hρ : ρ.sz = size) {w : World} {Z : Nat → Prop} {v : Value} {l : List α} (h : IsSlc ρ w Z v l)
    (hZ : ∀ k, Z k → k < w.heap.size) (hbig : l.length * bytes ≤ 140737488355328) : Calls Tryz.prog f #[v] w (CloneV ρ e Z w l) := by
  obtain ⟨A, n, c, rfl, hs, h0⟩ := h
  have hl := hs.len
  refine (clone_slc ρ f t e size bytes L z hi hzs hsz hz hρ w Z A n c l hs hZ ?_ (by rw [← hl]; exact hbig)).mono ?_
  · rcases Nat.eq_zero_or_pos n with e1 | e1
    · have := h0 (List.eq_nil_of_length_eq_zero (by omega))
      simp only [Value.slice.injEq] at this
      exact .inl this.1
    · exact .inr e1
  · rintro e w' ⟨A', c', rfl, h1, h2⟩
    subst hl
    exact ⟨A', c', rfl, h1, h2⟩
section
variable {w : World} {Z : Nat → Prop} {v : Value}
set_option maxRecDepth 100000
theorem clone65 {l : List Int} (h : IsSlc repInt w Z v l) (hZ : ∀ k, Z k → k < w.heap.size) (hb : l.length ≤ 65536) : Calls Tryz.prog 65 #[v] w (CloneV repInt 3 Z w l) :=
  clone_v (bytes := 8) lay65 (.int .i64 0) (by kernel_rfl) rfl (by decide) (fun _ => by kernel_rfl) rfl h hZ (by omega)
theorem clone75 {l : List Int} (h : IsSlc repInt w Z v l) (hZ : ∀ k, Z k → k < w.heap.size) (hb : l.length ≤ 65536) : Calls Tryz.prog 75 #[v] w (CloneV repInt 2 Z w l) :=
  clone_v (bytes := 8) lay75 (.int .i64 0) (by kernel_rfl) rfl (by decide) (fun _ => by kernel_rfl) rfl h hZ (by omega)
theorem clone73 {l : List ByteArray} (h : IsSlc repStr w Z v l) (hZ : ∀ k, Z k → k < w.heap.size) (hb : l.length ≤ 65536) : Calls Tryz.prog 73 #[v] w (CloneV repStr 9 Z w l) :=
  clone_v (bytes := 16) lay73 (.string ⟨#[]⟩) (by kernel_rfl) rfl (by decide) (fun _ => by kernel_rfl) rfl h hZ (by omega)
theorem clone194 {l : List Vl} (h : IsSlc repVl w Z v l) (hZ : ∀ k, Z k → k < w.heap.size) (hb : l.length ≤ 65536) : Calls Tryz.prog 194 #[v] w (CloneV repVl 28 Z w l) :=
  clone_v (size := 3) (bytes := 48) lay194 (.agg #[.string ⟨#[]⟩, .int .i64 0, .slice none 0 0]) (by kernel_rfl) rfl (by decide) (fun _ => by kernel_rfl) rfl h hZ (by omega)
theorem clone74 (c : Nat) (w : World) : Calls Tryz.prog 74 #[.slice none 0 c] w fun e w' => e = .returned (.slice none 0 0) ∧ w' = w := AnyE.slices_Clone_nil lay74 0 c w
theorem clone119 (c : Nat) (w : World) : Calls Tryz.prog 119 #[.slice none 0 c] w fun e w' => e = .returned (.slice none 0 0) ∧ w' = w := AnyE.slices_Clone_nil lay119 0 c w
end
end Go.Proofs.YtbilddeepnnogaaGreatDoor
end
/- Shapes of one dimension. -/
section
set_option linter.unusedVariables false
namespace Go.Proofs.YtbilddeepnnogaaGreatDoor
open Go.RowKit

/-- The slice at A holds x alone. -/
def One (w : World) (A : Option Addr) (x : Int) : Prop := ∃ b off, A = some ⟨b, off, none⟩ ∧ b < w.heap.size ∧ w.cell? ⟨b, off, none⟩ = some (.int .i64 x)
theorem One.below {w w' : World} {A : Option Addr} {x : Int} (h : One w A x) (hb : Below w.heap.size w w') : One w' A x := by
  obtain ⟨b, off, rfl, h1, h2⟩ := h
  exact ⟨b, off, rfl, Nat.lt_of_lt_of_le h1 hb.size, (hb.cell (p := ⟨b, off, none⟩) h1).trans h2⟩
theorem One.isSlc {w : World} {A : Option Addr} {x : Int} (h : One w A x) (c : Nat) : IsSlc repInt w (fun k => k < w.heap.size) (.slice A 1 c) [x] := by
  obtain ⟨b, off, rfl, h1, h2⟩ := h
  refine ⟨_, _, _, rfl, ⟨rfl, by unfold maxLen; omega, fun _ => ⟨b, off, rfl, h1, fun j y hj => ?_⟩⟩, fun e => by simp at e⟩
  match j, hj with
  | 0, hj =>
    simp at hj
    subst hj
    refine ⟨_, rfl, fun i hi => ?_⟩
    obtain rfl : i = 0 := by have : i < 1 := hi; omega
    simpa using h2
  | j + 1, hj => simp at hj
theorem one_of {w : World} {Z : Nat → Prop} {A : Option Addr} {n c : Nat} {x : Int} (h : IsSlc repInt w Z (.slice A n c) [x]) (hZ : ∀ k, Z k → k < w.heap.size) : One w A x ∧ n = 1 := by
  obtain ⟨A', n', c', e, hs, _⟩ := h
  cases e
  have hl := hs.len
  obtain rfl : n = 1 := by simpa using hl.symm
  obtain ⟨b, off, y, cs, rfl, hb, hy, hr, hc⟩ := hs.get (k := 0) (by omega)
  simp at hy
  subst hy
  have := hc 0 (by decide)
  rw [show cs = [.int .i64 x] from hr] at this
  exact ⟨⟨b, off, rfl, hZ b hb, by simpa using this⟩, rfl⟩

set_option maxHeartbeats 400000 in
theorem count1_any (w : World) (A : Option Addr) (c : Nat) (x : Int) (h : One w A x) (h1 : 1 ≤ x) (h2 : x ≤ 30) :
    Calls Tryz.prog 42 #[.slice A 1 c] w fun e w' => e = .returned (.tuple #[.int .i64 x, .int .i64 0]) ∧ w' = w := by
  obtain ⟨b, off, rfl, hb, hc⟩ := h
  have hlt : decide (x < 1) = false := by simpa using h1
  go_enter Tryz.func42, Tryz.ntmps42
  go_wp2
  refine wp_loop_rounds 2 ?_
  rw [rounds_succ]
  go_wp2
  rw [rounds_succ]
  go_wp2
  refine wp_loop_rounds 2 ?_
  rw [rounds_succ]
  go_wp2
  rw [rounds_succ]
  go_wp2
  go_ret2
  exact ⟨rfl, rfl⟩

/-- A new slice of one. -/
def New1 (w w' : World) (A : Option Addr) (x : Int) : Prop := ∃ g, A = some ⟨g, 0, none⟩ ∧ w.heap.size ≤ g ∧ g < w'.heap.size ∧ w'.cell? ⟨g, 0, none⟩ = some (.int .i64 x) ∧ w'.frozen? ⟨g, 0, none⟩ = false
theorem clone1_any (w : World) (A : Option Addr) (c : Nat) (x : Int) (h : One w A x) :
    Calls Tryz.prog 65 #[.slice A 1 c] w fun e w' => ∃ A' c', e = .returned (.slice A' 1 c') ∧ New1 w w' A' x ∧ Below w.heap.size w w' := by
  refine (clone65 (h.isSlc c) (fun _ h => h) (by simp)).mono ?_
  rintro e w' ⟨A', c', rfl, ho, hb⟩
  refine ⟨A', c', rfl, ?_, hb⟩
  obtain ⟨xs, hx, hr⟩ := ho.own
  rcases hx.2 with ⟨h1, h2⟩ | ⟨g, cap, cur, e1, hg, hh, h3, h4, h5, h6⟩
  · simp at h2
  · simp only [Value.slice.injEq] at e1
    obtain ⟨rfl, _, rfl⟩ := e1
    refine ⟨g, rfl, hg, (Array.getElem?_eq_some_iff.1 hh).1, ?_, hx.frozenAt 0⟩
    rw [cell_of_row _ _ 0 _ 3 (0, 0) hh]
    obtain ⟨cs, q1, q2⟩ := hr 0 x (by simp)
    have q3 := q2 0 (by decide)
    rw [show cs = [.int .i64 x] from q1] at q3
    rw [← h6, List.getElem?_take] at q3
    simpa [repInt] using q3
theorem New1.one {w w' : World} {A : Option Addr} {x : Int} (h : New1 w w' A x) : One w' A x := by
  obtain ⟨g, rfl, h1, h2, h3, h4⟩ := h
  exact ⟨g, 0, rfl, h2, h3⟩

theorem Tryz.info3 : (Tryz.prog.info? 3).map (fun i => (i.zero, i.size, i.bytes)) = some (some (.int .i64 0), 1, 8) := by kernel_rfl
theorem make_int1 (w : World) : (Instr.makeSlice 23 (.int .i64 1) (.int .i64 1)).run Tryz.prog w = .ok (.slice (some ⟨w.heap.size, 0, none⟩) 1 1) (w.alloc (.cells #[.int .i64 0] 3)) := by
  have h := run_make_row' (P := Tryz.prog) 23 3 (.int .i64 0) 8 Tryz.underlying23 Tryz.info3 rfl .i64 .i64 1 (by omega) (by omega) w
  rw [show madeCells #[Value.int .i64 0] 1 = #[.int .i64 0] by kernel_rfl] at h
  exact h
theorem new1_alloc (w : World) (x : Int) : New1 w (w.alloc (.cells #[.int .i64 x] 3)) (some ⟨w.heap.size, 0, none⟩) x := ⟨_, rfl, Nat.le_refl _, by simp, by rw [cell_of_row _ _ 0 _ 3 (0, 0) (heap_alloc_new w _)]; rfl, by unfold World.frozen?; rw [heap_alloc_new]; rfl⟩
theorem below_new (w : World) (o : Obj) : Below w.heap.size w (w.alloc o) := (Below.refl _ _).alloc (Nat.le_refl _) _
set_option maxHeartbeats 400000 in
theorem strides1_any (w : World) (A : Option Addr) (c : Nat) (x : Int) (h : One w A x) (h1 : 1 ≤ x) (h2 : x ≤ 30) :
    Calls Tryz.prog 292 #[.slice A 1 c] w fun e w' => ∃ A', e = .returned (.tuple #[.slice A' 1 1, .int .i64 0]) ∧ New1 w w' A' 1 ∧ Below w.heap.size w w' := by
  have hC := count1_any w A c x h h1 h2
  have hm := make_int1
  obtain ⟨b, off, rfl, hb, hc⟩ := h
  go_enter Tryz.func292, Tryz.ntmps292
  go_wp2_with (go_at_call 42; refine hC.mono ?_; rintro e w' ⟨rfl, rfl⟩)
  refine wp_loop_rounds 2 ?_
  rw [rounds_succ]
  go_wp2
  rw [rounds_succ]
  go_wp2
  go_ret2
  exact ⟨_, rfl, new1_alloc _ _, below_new _ _⟩
set_option maxHeartbeats 400000 in
theorem equal1_any (w : World) (A B : Option Addr) (c c' : Nat) (x : Int) (h : One w A x) (g : One w B x) :
    Calls Tryz.prog 67 #[.slice A 1 c, .slice B 1 c'] w fun e w' => e = .returned (.bool true) ∧ Below w.heap.size w w' := by
  obtain ⟨b, off, rfl, hb, hc⟩ := h
  obtain ⟨b', off', rfl, hb', hc'⟩ := g
  go_enter Tryz.func67, Tryz.ntmps67
  go_wp2
  refine wp_loop_rounds 2 ?_
  rw [rounds_succ]
  go_wp2
  go_quiet (fail)
  go_wp2
  rw [rounds_succ]
  go_wp2
  go_ret
  exact ⟨rfl, below_drewN (Below.refl _ _) _⟩

set_option maxHeartbeats 800000 in
theorem broad1_any (w : World) (A B : Option Addr) (c c' : Nat) (x : Int) (h : One w A x) (g : One w B x) (h1 : 1 ≤ x) (h2 : x ≤ 30) :
    Calls Tryz.prog 274 #[.slice A 1 c, .slice B 1 c'] w fun e w' => ∃ A' c', e = .returned (.tuple #[.slice A' 1 c', .int .i64 0]) ∧ New1 w w' A' x ∧ Below w.heap.size w w' := by
  have hC := fun W A (h : One W A x) c => count1_any W A c x h h1 h2
  have h0 := h
  have g0 := g
  obtain ⟨b, off, rfl, hb, hc⟩ := h
  obtain ⟨b', off', rfl, hb', hc'⟩ := g
  go_enter Tryz.func274, Tryz.ntmps274
  go_wp2
  refine wp_loop_rounds 3 ?_
  rw [rounds_succ]
  have hbn := below_new w (.cells #[.slice (some ⟨b, off, none⟩) 1 c, .slice (some ⟨b', off', none⟩) 1 c'] 23)
  have ha := hC _ _ (h0.below hbn) c
  have hb2 := hC _ _ (g0.below hbn) c'
  go_wp2_with (go_at_call 42; refine ha.mono ?_; rintro e w' ⟨rfl, rfl⟩)
  rw [rounds_succ]
  go_wp2_with (go_at_call 42; refine hb2.mono ?_; rintro e w' ⟨rfl, rfl⟩)
  rw [rounds_succ]
  go_wp2_with fail
  refine (clone1_any _ _ _ x (h0.below hbn)).mono ?_
  rintro e w1 ⟨A', c2, rfl, hn, hb1⟩
  have hb3 := hbn.trans (hb1.mono (by simp))
  have g1 := (g0.below hb3)
  obtain ⟨g, rfl, q1, q2, q3, q4⟩ := hn
  have hz : w.heap.size ≤ g := by simp at q1; omega
  obtain ⟨_, _, e5, hb4, hc4⟩ := g1
  cases e5
  clear hb' hc' hb hc h0 g0 ha hb2 hbn hb1 q1
  by_cases hx : x = 1
  · subst hx
    have hn1 : New1 w w1 (some ⟨g, 0, none⟩) 1 := ⟨g, rfl, hz, q2, q3, q4⟩
    go_wp2_with fail
    refine wp_loop_rounds 2 ?_
    rw [rounds_succ]
    go_wp2_with fail
    rw [rounds_succ]
    go_wp2_with fail
    refine (hC _ (some ⟨g, 0, none⟩) ⟨g, 0, rfl, by simpa using q2, World.cell?_setCell_same' _ _ _ (by rw [q3]; rfl)⟩ _).mono ?_
    rintro e w2 ⟨rfl, rfl⟩
    go_wp2_with fail
    go_ret2
    exact ⟨_, _, rfl, ⟨g, rfl, hz, by simpa using q2, World.cell?_setCell_same' _ _ _ (by rw [q3]; rfl), by rw [World.frozen?_setCell]; exact q4⟩, hb3.setCell hz _⟩
  · have hx2 : (x == 1) = false := by simpa using hx
    have hx3 : (x != 1) = true := by simpa using hx
    go_wp2_with fail
    refine wp_loop_rounds 2 ?_
    rw [rounds_succ]
    go_wp2_with fail
    go_quiet (fail)
    go_wp2_with fail
    rw [rounds_succ]
    go_wp2_with fail
    refine Calls.mono (hC _ (some ⟨g, 0, none⟩) ?_ _) ?_
    · exact ⟨g, 0, rfl, q2, q3⟩
    rintro e w2 ⟨rfl, rfl⟩
    go_wp2_with fail
    go_ret2
    exact ⟨_, _, rfl, ⟨g, rfl, hz, q2, q3, q4⟩, below_drewN hb3 _⟩
end Go.Proofs.YtbilddeepnnogaaGreatDoor
end
/- Elements. -/
section
set_option linter.unusedVariables false
namespace Go.Proofs.YtbilddeepnnogaaGreatDoor
open Go.RowKit

def sNeg : ByteArray := ⟨#[78, 101, 103]⟩
def sAbs : ByteArray := ⟨#[65, 98, 115]⟩
def sIdn : ByteArray := ⟨#[73, 100, 101, 110, 116, 105, 116, 121]⟩
def sAdd : ByteArray := ⟨#[65, 100, 100]⟩
def sX : ByteArray := ⟨#[120]⟩
def sE : ByteArray := ⟨#[]⟩
/-- Small numbers. -/
def Sm (x : Int) : Prop := -1000000 ≤ x ∧ x ≤ 1000000

set_option maxHeartbeats 400000 in
theorem check6_any (x : Int) (w : World) (h : Sm x) : Calls Tryz.prog 87 #[.int .i64 6, .int .i64 x] w fun e w' => e = .returned (.bool true) ∧ w' = w := by
  obtain ⟨h1, h2⟩ := h
  go_enter Tryz.func87, Tryz.ntmps87
  go_wp2
  go_ret
  exact ⟨rfl, rfl⟩
set_option maxHeartbeats 800000 in
theorem unary_neg (x : Int) (w : World) (h : Sm x) : Calls Tryz.prog 176 #[.string ⟨#[78, 101, 103]⟩, .int .i64 6, .int .i64 x] w fun e w' => e = .returned (.tuple #[.int .i64 (-x), .int .i64 0]) ∧ w' = w := by
  have hC := fun w => check6_any x w h
  obtain ⟨h1, h2⟩ := h
  go_enter Tryz.func176, Tryz.ntmps176
  go_wp2_with (first | (go_at_call 87; refine (hC _).mono ?_; rintro e w' ⟨rfl, rfl⟩) | go_in)
  go_ret2
  exact ⟨rfl, rfl⟩
set_option maxHeartbeats 800000 in
theorem unary_abs (x : Int) (w : World) (h : Sm x) : Calls Tryz.prog 176 #[.string ⟨#[65, 98, 115]⟩, .int .i64 6, .int .i64 x] w fun e w' => e = .returned (.tuple #[.int .i64 (max x (-x)), .int .i64 0]) ∧ w' = w := by
  have hC := fun w => check6_any x w h
  obtain ⟨h1, h2⟩ := h
  by_cases hx : x < 0
  · go_enter Tryz.func176, Tryz.ntmps176
    go_wp2_with (first | (go_at_call 87; refine (hC _).mono ?_; rintro e w' ⟨rfl, rfl⟩) | go_in)
    go_ret2
    rw [show max x (-x) = -x by omega]
    exact ⟨rfl, rfl⟩
  · go_enter Tryz.func176, Tryz.ntmps176
    go_wp2_with (first | (go_at_call 87; refine (hC _).mono ?_; rintro e w' ⟨rfl, rfl⟩) | go_in)
    go_ret2
    rw [show max x (-x) = x by omega]
    exact ⟨rfl, rfl⟩
set_option maxHeartbeats 800000 in
theorem unary_idn (x : Int) (w : World) (h : Sm x) : Calls Tryz.prog 176 #[.string ⟨#[73, 100, 101, 110, 116, 105, 116, 121]⟩, .int .i64 6, .int .i64 x] w fun e w' => e = .returned (.tuple #[.int .i64 x, .int .i64 0]) ∧ w' = w := by
  have hC := fun w => check6_any x w h
  obtain ⟨h1, h2⟩ := h
  go_enter Tryz.func176, Tryz.ntmps176
  go_wp2_with (first | (go_at_call 87; refine (hC _).mono ?_; rintro e w' ⟨rfl, rfl⟩) | go_in)
  go_ret2
  exact ⟨rfl, rfl⟩
set_option maxHeartbeats 800000 in
theorem binary_add (x y : Int) (w : World) (h : Sm x) (g : Sm y) : Calls Tryz.prog 207 #[.string ⟨#[65, 100, 100]⟩, .int .i64 6, .int .i64 x, .int .i64 y] w fun e w' => e = .returned (.tuple #[.int .i64 (x + y), .int .i64 0]) ∧ w' = w := by
  have hC := fun w => check6_any x w h
  have hD := fun w => check6_any y w g
  obtain ⟨h1, h2⟩ := h
  obtain ⟨h3, h4⟩ := g
  go_enter Tryz.func207, Tryz.ntmps207
  go_wp2_with fail
  refine (hC _).mono ?_
  rintro e w' ⟨rfl, rfl⟩
  go_wp2_with fail
  refine (hD _).mono ?_
  rintro e w' ⟨rfl, rfl⟩
  go_wp2
  go_ret2
  exact ⟨rfl, rfl⟩
end Go.Proofs.YtbilddeepnnogaaGreatDoor
end
/- The library's functions, as they lie in this program: strings; and what the package's variables hold. -/
section
set_option linter.unusedVariables false
namespace Go.Proofs.YtbilddeepnnogaaGreatDoor
open Go.RowKit Go.Shelf

def ren146 : Ren := ⟨fun x => match x with | 146 => 238 | 221 => 330 | 268 => 386 | 138 => 387 | 143 => 388 | 195 => 411 | 197 => 412 | 218 => 413 | 219 => 399 | 260 => 435 | 217 => 417 | 225 => 418 | 224 => 419 | 267 => 420 | 266 => 439 | 314 => 440 | n => n,
  fun x => match x with | 31 => 34 | 105 => 467 | 46 => 115 | 119 => 488 | 139 => 491 | 138 => 490 | 146 => 479 | 51 => 355 | n => n, fun x => match x with | 1 => 2 | n => n⟩
def ren145 : Ren := ⟨fun x => match x with | 145 => 267 | 220 => 349 | 219 => 399 | 217 => 417 | 225 => 418 | 224 => 419 | 267 => 420 | 266 => 439 | 314 => 440 | n => n, fun x => match x with | 59 => 359 | 46 => 115 | 146 => 479 | 51 => 355 | n => n, fun x => match x with | 1 => 2 | n => n⟩
set_option maxRecDepth 100000 in
theorem laySplit : Lays.n146 Tryz.prog ren146 := by
  constructor
  all_goals first | kernel_rfl | exact fun _ => by kernel_rfl
set_option maxRecDepth 100000 in
theorem layCut : Lays.n145 Tryz.prog ren145 := by
  constructor
  all_goals first | kernel_rfl | exact fun _ => by kernel_rfl
end Go.Proofs.YtbilddeepnnogaaGreatDoor
end
/- Operators. -/
section
set_option linter.unusedVariables false
namespace Go.Proofs.YtbilddeepnnogaaGreatDoor
open Go.RowKit Go.Shelf

/-- No attribute. -/
def zAt : Value := .agg #[.string ⟨#[]⟩, .int .i64 0, .int .i64 0, .int .i64 0, .string ⟨#[]⟩, .int .i64 0, .slice none 0 0, .slice none 0 0, .slice none 0 0]
/-- New blocks: the world behind them, by what it holds. -/
theorem one_new {P : Program} {k : Code} {Q : Exit → Act → World → Prop} {a : Act} {w : World} {o : Obj} (h : ∀ w2, Below w.heap.size w w2 → w2.heap[w.heap.size]? = some o → w.heap.size + 1 ≤ w2.heap.size → k.wp P Q a w2) : k.wp P Q a (w.alloc o) :=
  h _ (below_new w o) (heap_alloc_new w o) (by simp)
theorem two_new {P : Program} {k : Code} {Q : Exit → Act → World → Prop} {a : Act} {w : World} {o o' : Obj} (h : ∀ w2, Below w.heap.size w w2 → w2.heap[w.heap.size]? = some o → w2.heap[w.heap.size + 1]? = some o' → w.heap.size + 2 ≤ w2.heap.size → k.wp P Q a w2) : k.wp P Q a ((w.alloc o).alloc o') := by
  refine h _ ((below_new w o).alloc (by simp) o') ?_ ?_ (by simp)
  · rw [Below.heap_alloc _ _ _ (by simp)]; exact heap_alloc_new w o
  · have := heap_alloc_new (w.alloc o) o'
    simpa using this

theorem idxA_nil (fv : Value) (c : Nat) (w : World) : Calls Tryz.prog 191 #[.slice none 0 c, fv] w fun e w' => e = .returned (.int .i64 (-1)) ∧ w' = w := by
  go_enter Tryz.func191, Tryz.ntmps191
  go_wp2
  refine wp_loop_rounds 1 ?_
  rw [rounds_succ]
  go_wp2
  go_ret
  exact ⟨rfl, rfl⟩
theorem named_any (s : ByteArray) (k : Int) (w : World) : Calls Tryz.prog 269 #[.string s, .int .i64 k] w fun e w' => (∃ fv, e = .returned fv) ∧ Below w.heap.size w w' := by
  go_enter Tryz.func269, Tryz.ntmps269
  go_wp2
  go_ret
  exact ⟨⟨_, rfl⟩, ((Below.refl _ _).alloc (Nat.le_refl _) _).alloc (by simp) _⟩
set_option maxHeartbeats 800000 in
theorem find_none (op nm out s : ByteArray) (A : Option Addr) (m c : Nat) (k : Int) (w : World) :
    Calls Tryz.prog 205 #[.agg #[.string op, .string nm, .slice A m c, .string out, .slice none 0 0], .string s, .int .i64 k] w fun e w' => e = .returned (.tuple #[zAt, .bool false]) ∧ Below w.heap.size w w' := by
  go_enter Tryz.func205, Tryz.ntmps205
  go_wp2_with fail
  refine two_new ?_
  intro w2 b1 g0 g1 z1
  have d0 : w2.cell? ⟨w.heap.size, 4, none⟩ = some (.slice none 0 0) := cell_of_row _ _ 4 _ 37 (0, 0) g0
  clear g0
  go_region_held3 (fun W => W.cell? ⟨w.heap.size, 4, none⟩ = some (.slice none 0 0)) (first | exact d0 | exact d2 | go_keep)
    (first
      | (go_at_call 269; refine (named_any _ _ _).mono ?_; rintro e w3 ⟨⟨fv, rfl⟩, b2⟩; have d2 := (b2.cell (p := ⟨w.heap.size, 4, none⟩) (by show w.heap.size < w2.heap.size; omega)).trans d0; have g2 := (b2.block (w.heap.size + 1) (by show w.heap.size + 1 < w2.heap.size; omega)).trans g1; have b3 := (below_drewN b1 1).trans (b2.mono b1.size); clear b2)
      | (go_at_call 191; refine (idxA_nil _ _ _).mono ?_; rintro e w4 ⟨rfl, rfl⟩))
  obtain ⟨r0, r1, r2, r3, r4, r5, r6, r7, r8, f0, f1, f2, f3, f4, f5, f6, f7, f8⟩ := cells9 g2
  go_wp2_with fail
  refine put9 (F := fun W => bodyPost _ _ _ _ _ W) g2 ?_
  intro w5 g5 hk hb _
  refine bodyPost_ret (res_row_tmp rfl _ _ (w.heap.size + 1) 103 _ (0, 0) _ rfl g5 Tryz.underlying103 rfl (by kernel_rfl)) rfl ?_
  exact ⟨rfl, b3.trans (hb.mono (by omega))⟩

/-- The package's variables. -/
structure Gl (w : World) : Prop where
  max : ∃ m, w.cell? ⟨2, 0, none⟩ = some (.int .i64 m)
  ones : w.heap[0]? = some (.cells #[.string ⟨#[73, 100, 101, 110, 116, 105, 116, 121]⟩, .string ⟨#[78, 101, 103]⟩, .string ⟨#[65, 98, 115]⟩, .string ⟨#[78, 111, 116]⟩, .string ⟨#[82, 101, 108, 117]⟩, .string ⟨#[83, 113, 114, 116]⟩, .string ⟨#[70, 108, 111, 111, 114]⟩, .string ⟨#[69, 120, 112]⟩, .string ⟨#[83, 105, 103, 109, 111, 105, 100]⟩, .string ⟨#[84, 97, 110, 104]⟩] 400 (0, 0))
  lt : 5 ≤ w.heap.size
theorem Gl.below {w w' : World} (h : Gl w) (hb : Below w.heap.size w w') : Gl w' := by
  obtain ⟨⟨m, h1⟩, h2, h3⟩ := h
  exact ⟨⟨m, (hb.cell (p := ⟨2, 0, none⟩) (by show 2 < w.heap.size; omega)).trans h1⟩, (hb.block 0 (by omega)).trans h2, Nat.le_trans h3 hb.size⟩
theorem Gl.drewN {w : World} (h : Gl w) (n : Nat) : Gl (w.drewN n) := ⟨h.max, h.ones, h.lt⟩

theorem split_then (w : World) (h : Gl w) : Calls Tryz.prog 238 #[.string ⟨#[44, 116, 104, 101, 110, 32, 120]⟩, .string ⟨#[44]⟩] w fun e w' => e = .returned (.slice (some ⟨w.heap.size, 0, none⟩) 2 2) ∧ w' = w.alloc (.cells #[.string ⟨#[]⟩, .string ⟨#[116, 104, 101, 110, 32, 120]⟩] 9) := by
  obtain ⟨m, hm⟩ := h.max
  have c := Any.strings_Split laySplit (by kernel_rfl) ⟨#[44, 116, 104, 101, 110, 32, 120]⟩ ⟨#[44]⟩ m w (by decide) hm (by decide)
  rw [show Lib.countB ⟨#[44, 116, 104, 101, 110, 32, 120]⟩ ⟨#[44]⟩ = 1 by kernel_rfl, show (List.map Value.string (Lib.splitB ⟨#[44]⟩ 0 1 ⟨#[44, 116, 104, 101, 110, 32, 120]⟩)).toArray = #[.string ⟨#[]⟩, .string ⟨#[116, 104, 101, 110, 32, 120]⟩] by kernel_rfl] at c
  exact c
theorem cut_none (w : World) (h : Gl w) : Calls Tryz.prog 267 #[.string ⟨#[]⟩, .string ⟨#[32]⟩] w fun e w' => e = .returned (.tuple #[.string ⟨#[]⟩, .string ⟨#[]⟩, .bool false]) ∧ ∃ n, w' = w.drewN n := by
  obtain ⟨m, hm⟩ := h.max
  have c := Any.strings_Cut layCut ⟨#[]⟩ ⟨#[32]⟩ m w (by decide) hm
  exact c
theorem cut_then (w : World) (h : Gl w) : Calls Tryz.prog 267 #[.string ⟨#[116, 104, 101, 110, 32, 120]⟩, .string ⟨#[32]⟩] w fun e w' => e = .returned (.tuple #[.string ⟨#[116, 104, 101, 110]⟩, .string ⟨#[120]⟩, .bool true]) ∧ ∃ n, w' = w.drewN n := by
  obtain ⟨m, hm⟩ := h.max
  have c := Any.strings_Cut layCut ⟨#[116, 104, 101, 110, 32, 120]⟩ ⟨#[32]⟩ m w (by decide) hm
  exact c
theorem kind_other (b : Int) (h : b = 32 ∨ b = 120) (w : World) : Calls Tryz.prog 264 #[.int .u8 b] w fun e w' => e = .returned (.int .i64 3) ∧ w' = w := by
  rcases h with rfl | rfl
  all_goals
    go_enter Tryz.func264, Tryz.ntmps264
    go_wp2
    go_ret
    exact ⟨rfl, rfl⟩
theorem suff_no (s : ByteArray) (h : s = ⟨#[]⟩ ∨ s = ⟨#[120]⟩) (w : World) : Calls Tryz.prog 268 #[.string s, .string ⟨#[42]⟩] w fun e w' => e = .returned (.bool false) ∧ w' = w := by
  have hx : ((ByteArray.mk #[120]).extract 0 1).toList = [120] := by kernel_rfl
  rcases h with rfl | rfl
  all_goals
    go_enter Tryz.func268, Tryz.ntmps268
    go_wp2
    go_ret
    exact ⟨rfl, rfl⟩
/-- What the loop over the rule's words keeps: the node's box, the words. -/
structure AtSt (w wr : World) (op nm out : ByteArray) (A : Option Addr) (m c : Nat) : Prop where
  below : Below w.heap.size w wr
  size : w.heap.size + 2 ≤ wr.heap.size
  g0 : wr.heap[w.heap.size]? = some (.cells #[.string op, .string nm, .slice A m c, .string out, .slice none 0 0] 37 (0, 0))
  g1 : wr.heap[w.heap.size + 1]? = some (.cells #[.string ⟨#[]⟩, .string ⟨#[116, 104, 101, 110, 32, 120]⟩] 9 (0, 0))
theorem AtSt.later {w wr w' : World} {op nm out : ByteArray} {A : Option Addr} {m c : Nat} (h : AtSt w wr op nm out A m c) (hb : Below (w.heap.size + 2) wr w') : AtSt w w' op nm out A m c :=
  ⟨h.below.trans (hb.mono (by omega)), Nat.le_trans h.size hb.size, (hb.block _ (by omega)).trans h.g0, (hb.block _ (by omega)).trans h.g1⟩
set_option maxHeartbeats 6400000 in
theorem attrs_none (op nm out : ByteArray) (A : Option Addr) (m c : Nat) (w : World) (h : Gl w) :
    Calls Tryz.prog 204 #[.agg #[.string op, .string nm, .slice A m c, .string out, .slice none 0 0], .string ⟨#[]⟩] w fun e w' => e = .returned (.int .i64 0) ∧ Below w.heap.size w w' := by
  go_enter Tryz.func204, Tryz.ntmps204
  go_wp2_with fail
  refine (split_then _ (h.below (below_new w _))).mono ?_
  rintro e w' ⟨rfl, rfl⟩
  rw [World.size_alloc]
  go_wp2_with fail
  refine two_new ?_
  intro w2 b1 g0 g1 z1
  have HS := Lib.hid (show AtSt w w2 op nm out A m c from ⟨b1, z1, g0, g1⟩)
  have HG := Lib.hid h
  obtain ⟨r0, r1, r2, r3, r4, f0, f1, f2, f3, f4⟩ := cells5 g0
  clear f0 f1 f2 f3 f4 g0 g1 b1 z1 h r0 r1 r2 r3
  refine wp_loop_rounds 1 ?_
  rw [rounds_succ]
  go_wp2_with fail
  clear r4
  go_loopw [65] (fun i wr => ∃ k : Nat, k ≤ 2 ∧ i = .int .i64 k ∧ AtSt w wr op nm out A m c) (fun i _ => 2 - (intOf i).toNat)
  case atStart => exact ⟨0, by omega, rfl, HS.out⟩
  case round =>
    obtain ⟨k, hk, rfl, hs⟩ := hrel
    obtain ⟨r0, r1, r2, r3, r4, -⟩ := cells5 hs.g0
    obtain ⟨s0, s1, -⟩ := cells2 hs.g1
    have hg := HG.out.below hs.below
    rcases (show k = 0 ∨ k = 1 ∨ k = 2 by omega) with rfl | rfl | rfl
    · go_wp2_with (go_at_call 267; refine (cut_none _ hg).mono ?_; rintro e w3 ⟨rfl, n3, rfl⟩)
      go_wp2_with fail
      have hs := hs.later (Below.mono (below_drewN (Below.refl wr.heap.size wr) n3) hs.size)
      have z1 := hs.size
      have g1 := hs.g0
      clear r0 r1 r2 r3 r4
      generalize wr.drewN n3 = w3 at *
      obtain ⟨r0, r1, r2, r3, r4, -⟩ := cells5 g1
      clear g1
      have ne1 : w.heap.size ≠ w3.heap.size := by omega
      go_region_held3 (fun W => W.cell? ⟨w.heap.size, 0, none⟩ = some (.string op) ∧ W.cell? ⟨w.heap.size, 1, none⟩ = some (.string nm) ∧ W.cell? ⟨w.heap.size, 2, none⟩ = some (.slice A m c) ∧ W.cell? ⟨w.heap.size, 3, none⟩ = some (.string out) ∧ W.cell? ⟨w.heap.size, 4, none⟩ = some (.slice none 0 0)) (first | with_reducible exact ⟨r0, r1, r2, r3, r4⟩ | with_reducible exact ⟨p0, p1, p2, p3, p4⟩ | go_keep | exact ⟨(far9 ne1).trans p0, (far9 ne1).trans p1, (far9 ne1).trans p2, (far9 ne1).trans p3, (far9 ne1).trans p4⟩)
        (first
          | (go_at_call 264; refine (kind_other _ (by first | exact .inl rfl | exact .inr rfl) _).mono ?_; rintro e w' ⟨rfl, rfl⟩)
          | (go_at_call 205; refine (find_none _ _ _ _ _ _ _ _ _).mono ?_; rintro e w4 ⟨he, b4⟩; unfold zAt at he; subst he; have b5 : Below w3.heap.size w3 w4 := Below.trans ((Below.refl _ _).alloc (Nat.le_refl _) _).drew (b4.mono (by simp)); have g9 := (b4.block w3.heap.size (by simp)).trans (heap_alloc_new w3 _); obtain ⟨a0, a1, a2, a3, a4, a5, a6, a7, a8, e0, e1, e2, e3, e4, e5, e6, e7, e8⟩ := cells9 g9; have p0 := (b5.cell (p := ⟨w.heap.size, 0, none⟩) (by show w.heap.size < w3.heap.size; omega)).trans r0; have p1 := (b5.cell (p := ⟨w.heap.size, 1, none⟩) (by show w.heap.size < w3.heap.size; omega)).trans r1; have p2 := (b5.cell (p := ⟨w.heap.size, 2, none⟩) (by show w.heap.size < w3.heap.size; omega)).trans r2; have p3 := (b5.cell (p := ⟨w.heap.size, 3, none⟩) (by show w.heap.size < w3.heap.size; omega)).trans r3; have p4 := (b5.cell (p := ⟨w.heap.size, 4, none⟩) (by show w.heap.size < w3.heap.size; omega)).trans r4; have hs5 := hs.later (b5.mono hs.size); have z6 := b5.size; have ne3 : w.heap.size ≠ w4.heap.size := (by omega); clear b4 b5)
          | (go_at_call 205; refine (find_none _ _ _ _ _ _ _ _ _).mono ?_; rintro e w4 ⟨he, b4⟩; unfold zAt at he; subst he; have b5 : Below w3.heap.size w3 w4 := Below.trans (Below.refl _ _).drew (b4.mono (by simp)); have p0 := (b5.cell (p := ⟨w.heap.size, 0, none⟩) (by show w.heap.size < w3.heap.size; omega)).trans r0; have p1 := (b5.cell (p := ⟨w.heap.size, 1, none⟩) (by show w.heap.size < w3.heap.size; omega)).trans r1; have p2 := (b5.cell (p := ⟨w.heap.size, 2, none⟩) (by show w.heap.size < w3.heap.size; omega)).trans r2; have p3 := (b5.cell (p := ⟨w.heap.size, 3, none⟩) (by show w.heap.size < w3.heap.size; omega)).trans r3; have p4 := (b5.cell (p := ⟨w.heap.size, 4, none⟩) (by show w.heap.size < w3.heap.size; omega)).trans r4; have hs5 := hs.later (b5.mono hs.size); have z6 := b5.size; have ne3 : w.heap.size ≠ w4.heap.size := (by omega); clear b4 b5))
      · refine new_F (F := fun W => Exit.then _ _ _ _ W) ?_
        intro w5 hb5 _ _
        have hs6 := hs5.later (hb5.mono hs5.size)
        clear hs hs5 r0 r1 r2 r3 r4 p0 p1 p2 p3 p4 z1 z6 ne1 ne3
        go_wp2_with (go_at_call 268; refine (suff_no _ (by first | exact .inl rfl | exact .inr rfl) _).mono ?_; rintro e w' ⟨rfl, rfl⟩)
        go_roundw
        case rel => exact ⟨1, by omega, by go_num, hs6⟩
        case measure => simp [intOf]
      all_goals
        refine put9 (F := fun W => Exit.then _ _ _ _ W) g9 ?_
        intro w5 _ hk5 hb5 hz5
        have hs6 := hs5.later (hb5.mono hs.size)
        clear hs hs5 r0 r1 r2 r3 r4 p0 p1 p2 p3 p4 a0 a1 a2 a3 a4 a5 a6 a7 a8 e0 e1 e2 e3 e4 e5 e6 e7 e8 g9
        go_wp2_with (go_at_call 268; refine (suff_no _ (by first | exact .inl rfl | exact .inr rfl) _).mono ?_; rintro e w' ⟨rfl, rfl⟩)
        go_roundw
        case rel => exact ⟨1, by omega, by go_num, hs6⟩
        case measure => simp [intOf]
    · go_wp2_with (go_at_call 267; refine (cut_then _ hg).mono ?_; rintro e w3 ⟨rfl, n3, rfl⟩)
      go_wp2_with fail
      have hs := hs.later (Below.mono (below_drewN (Below.refl wr.heap.size wr) n3) hs.size)
      have z1 := hs.size
      have g1 := hs.g0
      clear r0 r1 r2 r3 r4
      generalize wr.drewN n3 = w3 at *
      obtain ⟨r0, r1, r2, r3, r4, -⟩ := cells5 g1
      clear g1
      have ne1 : w.heap.size ≠ w3.heap.size := by omega
      go_region_held3 (fun W => W.cell? ⟨w.heap.size, 0, none⟩ = some (.string op) ∧ W.cell? ⟨w.heap.size, 1, none⟩ = some (.string nm) ∧ W.cell? ⟨w.heap.size, 2, none⟩ = some (.slice A m c) ∧ W.cell? ⟨w.heap.size, 3, none⟩ = some (.string out) ∧ W.cell? ⟨w.heap.size, 4, none⟩ = some (.slice none 0 0)) (first | with_reducible exact ⟨r0, r1, r2, r3, r4⟩ | with_reducible exact ⟨p0, p1, p2, p3, p4⟩ | go_keep | exact ⟨(far9 ne1).trans p0, (far9 ne1).trans p1, (far9 ne1).trans p2, (far9 ne1).trans p3, (far9 ne1).trans p4⟩)
        (first
          | (go_at_call 264; refine (kind_other _ (by first | exact .inl rfl | exact .inr rfl) _).mono ?_; rintro e w' ⟨rfl, rfl⟩)
          | (go_at_call 205; refine (find_none _ _ _ _ _ _ _ _ _).mono ?_; rintro e w4 ⟨he, b4⟩; unfold zAt at he; subst he; have b5 : Below w3.heap.size w3 w4 := Below.trans ((Below.refl _ _).alloc (Nat.le_refl _) _).drew (b4.mono (by simp)); have g9 := (b4.block w3.heap.size (by simp)).trans (heap_alloc_new w3 _); obtain ⟨a0, a1, a2, a3, a4, a5, a6, a7, a8, e0, e1, e2, e3, e4, e5, e6, e7, e8⟩ := cells9 g9; have p0 := (b5.cell (p := ⟨w.heap.size, 0, none⟩) (by show w.heap.size < w3.heap.size; omega)).trans r0; have p1 := (b5.cell (p := ⟨w.heap.size, 1, none⟩) (by show w.heap.size < w3.heap.size; omega)).trans r1; have p2 := (b5.cell (p := ⟨w.heap.size, 2, none⟩) (by show w.heap.size < w3.heap.size; omega)).trans r2; have p3 := (b5.cell (p := ⟨w.heap.size, 3, none⟩) (by show w.heap.size < w3.heap.size; omega)).trans r3; have p4 := (b5.cell (p := ⟨w.heap.size, 4, none⟩) (by show w.heap.size < w3.heap.size; omega)).trans r4; have hs5 := hs.later (b5.mono hs.size); have z6 := b5.size; have ne3 : w.heap.size ≠ w4.heap.size := (by omega); clear b4 b5)
          | (go_at_call 205; refine (find_none _ _ _ _ _ _ _ _ _).mono ?_; rintro e w4 ⟨he, b4⟩; unfold zAt at he; subst he; have b5 : Below w3.heap.size w3 w4 := Below.trans (Below.refl _ _).drew (b4.mono (by simp)); have p0 := (b5.cell (p := ⟨w.heap.size, 0, none⟩) (by show w.heap.size < w3.heap.size; omega)).trans r0; have p1 := (b5.cell (p := ⟨w.heap.size, 1, none⟩) (by show w.heap.size < w3.heap.size; omega)).trans r1; have p2 := (b5.cell (p := ⟨w.heap.size, 2, none⟩) (by show w.heap.size < w3.heap.size; omega)).trans r2; have p3 := (b5.cell (p := ⟨w.heap.size, 3, none⟩) (by show w.heap.size < w3.heap.size; omega)).trans r3; have p4 := (b5.cell (p := ⟨w.heap.size, 4, none⟩) (by show w.heap.size < w3.heap.size; omega)).trans r4; have hs5 := hs.later (b5.mono hs.size); have z6 := b5.size; have ne3 : w.heap.size ≠ w4.heap.size := (by omega); clear b4 b5))
      · refine new_F (F := fun W => Exit.then _ _ _ _ W) ?_
        intro w5 hb5 _ _
        have hs6 := hs5.later (hb5.mono hs5.size)
        clear hs hs5 r0 r1 r2 r3 r4 p0 p1 p2 p3 p4 z1 z6 ne1 ne3
        go_wp2_with (go_at_call 268; refine (suff_no _ (by first | exact .inl rfl | exact .inr rfl) _).mono ?_; rintro e w' ⟨rfl, rfl⟩)
        go_roundw
        case rel => exact ⟨2, by omega, by go_num, hs6⟩
        case measure => simp [intOf]
      all_goals
        refine put9 (F := fun W => Exit.then _ _ _ _ W) g9 ?_
        intro w5 _ hk5 hb5 hz5
        have hs6 := hs5.later (hb5.mono hs.size)
        clear hs hs5 r0 r1 r2 r3 r4 p0 p1 p2 p3 p4 a0 a1 a2 a3 a4 a5 a6 a7 a8 e0 e1 e2 e3 e4 e5 e6 e7 e8 g9
        go_wp2_with (go_at_call 268; refine (suff_no _ (by first | exact .inl rfl | exact .inr rfl) _).mono ?_; rintro e w' ⟨rfl, rfl⟩)
        go_roundw
        case rel => exact ⟨2, by omega, by go_num, hs6⟩
        case measure => simp [intOf]
    · go_wp2
      go_ret
      exact ⟨rfl, hs.below⟩
end Go.Proofs.YtbilddeepnnogaaGreatDoor
end
/- Operators: which may be. -/
section
set_option linter.unusedVariables false
namespace Go.Proofs.YtbilddeepnnogaaGreatDoor
open Go.RowKit Go.Shelf

set_option maxHeartbeats 800000 in
theorem then_none (op nm out : ByteArray) (A : Option Addr) (m c : Nat) (w : World) :
    Calls Tryz.prog 175 #[.agg #[.string op, .string nm, .slice A m c, .string out, .slice none 0 0]] w fun e w' => e = .returned (.tuple #[.slice none 0 0, .int .i64 0]) ∧ Below w.heap.size w w' := by
  go_enter Tryz.func175, Tryz.ntmps175
  go_wp2_with fail
  refine (find_none _ _ _ _ _ _ _ _ _).mono ?_
  rintro e w2 ⟨rfl, hb⟩
  unfold zAt
  go_wp2_with fail
  go_ret2
  exact ⟨rfl, ((below_new w _).trans (hb.mono (by simp))).alloc (by have := hb.size; simp at this; omega) _⟩
/-- The operators of one that occur. -/
def Ops1 (o : ByteArray) : Prop := o = ⟨#[78, 101, 103]⟩ ∨ o = ⟨#[65, 98, 115]⟩ ∨ o = ⟨#[73, 100, 101, 110, 116, 105, 116, 121]⟩
theorem ones_0 (w : World) : (Instr.index 400 (.agg #[.string ⟨#[73, 100, 101, 110, 116, 105, 116, 121]⟩, .string ⟨#[78, 101, 103]⟩, .string ⟨#[65, 98, 115]⟩, .string ⟨#[78, 111, 116]⟩, .string ⟨#[82, 101, 108, 117]⟩, .string ⟨#[83, 113, 114, 116]⟩, .string ⟨#[70, 108, 111, 111, 114]⟩, .string ⟨#[69, 120, 112]⟩, .string ⟨#[83, 105, 103, 109, 111, 105, 100]⟩, .string ⟨#[84, 97, 110, 104]⟩]) (.int .i64 0)).run Tryz.prog w = .ok (.string ⟨#[73, 100, 101, 110, 116, 105, 116, 121]⟩) w := by kernel_rfl
theorem ones_1 (w : World) : (Instr.index 400 (.agg #[.string ⟨#[73, 100, 101, 110, 116, 105, 116, 121]⟩, .string ⟨#[78, 101, 103]⟩, .string ⟨#[65, 98, 115]⟩, .string ⟨#[78, 111, 116]⟩, .string ⟨#[82, 101, 108, 117]⟩, .string ⟨#[83, 113, 114, 116]⟩, .string ⟨#[70, 108, 111, 111, 114]⟩, .string ⟨#[69, 120, 112]⟩, .string ⟨#[83, 105, 103, 109, 111, 105, 100]⟩, .string ⟨#[84, 97, 110, 104]⟩]) (.int .i64 1)).run Tryz.prog w = .ok (.string ⟨#[78, 101, 103]⟩) w := by kernel_rfl
theorem ones_2 (w : World) : (Instr.index 400 (.agg #[.string ⟨#[73, 100, 101, 110, 116, 105, 116, 121]⟩, .string ⟨#[78, 101, 103]⟩, .string ⟨#[65, 98, 115]⟩, .string ⟨#[78, 111, 116]⟩, .string ⟨#[82, 101, 108, 117]⟩, .string ⟨#[83, 113, 114, 116]⟩, .string ⟨#[70, 108, 111, 111, 114]⟩, .string ⟨#[69, 120, 112]⟩, .string ⟨#[83, 105, 103, 109, 111, 105, 100]⟩, .string ⟨#[84, 97, 110, 104]⟩]) (.int .i64 2)).run Tryz.prog w = .ok (.string ⟨#[65, 98, 115]⟩) w := by kernel_rfl
set_option maxRecDepth 100000 in
set_option maxHeartbeats 1600000 in
theorem ofOne_yes (o : ByteArray) (h : Ops1 o) (w : World) (hg : Gl w) : Calls Tryz.prog 240 #[.string o] w fun e w' => e = .returned (.bool true) ∧ w' = w := by
  have h0 : ∀ i u, (#[Value.string ⟨#[73, 100, 101, 110, 116, 105, 116, 121]⟩, .string ⟨#[78, 101, 103]⟩, .string ⟨#[65, 98, 115]⟩, .string ⟨#[78, 111, 116]⟩, .string ⟨#[82, 101, 108, 117]⟩, .string ⟨#[83, 113, 114, 116]⟩, .string ⟨#[70, 108, 111, 111, 114]⟩, .string ⟨#[69, 120, 112]⟩, .string ⟨#[83, 105, 103, 109, 111, 105, 100]⟩, .string ⟨#[84, 97, 110, 104]⟩] : Array Value)[i]? = some u → w.cell? ⟨0, i, none⟩ = some u := fun i u hu => (cell_of_row _ _ i _ 400 (0, 0) hg.ones).trans hu
  have c0 := h0 0 _ rfl
  have c1 := h0 1 _ rfl
  have c2 := h0 2 _ rfl
  have c3 := h0 3 _ rfl
  have c4 := h0 4 _ rfl
  have c5 := h0 5 _ rfl
  have c6 := h0 6 _ rfl
  have c7 := h0 7 _ rfl
  have c8 := h0 8 _ rfl
  have c9 := h0 9 _ rfl
  clear h0
  have i0 := ones_0
  have i1 := ones_1
  have i2 := ones_2
  rcases h with rfl | rfl | rfl
  all_goals
    go_enter Tryz.func240, Tryz.ntmps240
    go_wp2
    refine wp_loop_rounds 4 ?_
    rw [rounds_succ]
    go_wp2
    try (rw [rounds_succ]; go_wp2)
    try (rw [rounds_succ]; go_wp2)
    go_ret
    exact ⟨rfl, rfl⟩
set_option maxHeartbeats 3200000 in
theorem ruleOf_one (o : ByteArray) (h : Ops1 o) (w : World) (hg : Gl w) : Calls Tryz.prog 203 #[.string o] w fun e w' => e = .returned (.tuple #[.agg #[.int .i64 1, .int .i64 1, .string ⟨#[]⟩], .bool true]) ∧ Below w.heap.size w w' := by
  have hC := ofOne_yes o h
  rcases h with rfl | rfl | rfl
  all_goals
    go_enter Tryz.func203, Tryz.ntmps203
    go_wp2_with (go_at_call 240; refine (hC _ (hg.below (below_new _ _))).mono ?_; rintro e w' ⟨rfl, rfl⟩)
    refine bodyPost_ret (res_row_tmp rfl _ _ w.heap.size 304 _ (0, 0) _ rfl (heap_alloc_new w _) Tryz.underlying304 rfl (by kernel_rfl)) rfl ?_
    exact ⟨rfl, below_new _ _⟩
set_option maxHeartbeats 3200000 in
theorem ruleOf_add (w : World) : Calls Tryz.prog 203 #[.string ⟨#[65, 100, 100]⟩] w fun e w' => e = .returned (.tuple #[.agg #[.int .i64 2, .int .i64 2, .string ⟨#[]⟩], .bool true]) ∧ Below w.heap.size w w' := by
  go_enter Tryz.func203, Tryz.ntmps203
  go_wp2_with fail
  refine bodyPost_ret (res_row_tmp rfl _ _ w.heap.size 304 _ (0, 0) _ rfl (heap_alloc_new w _) Tryz.underlying304 rfl (by kernel_rfl)) rfl ?_
  exact ⟨rfl, below_new _ _⟩
/-- What a node of the graphs is: an operator of one, or Add, of x alone. -/
def NdOp (o : ByteArray) (m : Nat) : Prop := (Ops1 o ∧ m = 1) ∨ (o = ⟨#[65, 100, 100]⟩ ∧ m = 2)
/-- The slice at A holds x so many times. -/
def Xs (w : World) (A : Option Addr) (m : Nat) : Prop := ∃ b off, A = some ⟨b, off, none⟩ ∧ b < w.heap.size ∧ ∀ j, j < m → w.cell? ⟨b, off + j, none⟩ = some (.string ⟨#[120]⟩)
theorem Xs.below {w w' : World} {A : Option Addr} {m : Nat} (h : Xs w A m) (hb : Below w.heap.size w w') : Xs w' A m := by
  obtain ⟨b, off, rfl, h1, h2⟩ := h
  exact ⟨b, off, rfl, Nat.lt_of_lt_of_le h1 hb.size, fun j hj => (hb.cell (p := ⟨b, off + j, none⟩) h1).trans (h2 j hj)⟩
theorem NdOp.cases {o : ByteArray} {m : Nat} (h : NdOp o m) : m = 1 ∨ m = 2 := by
  rcases h with h | h
  · exact .inl h.2
  · exact .inr h.2
theorem ruleOf_nd (o : ByteArray) (m : Nat) (h : NdOp o m) (w : World) (hg : Gl w) : Calls Tryz.prog 203 #[.string o] w fun e w' => e = .returned (.tuple #[.agg #[.int .i64 m, .int .i64 m, .string ⟨#[]⟩], .bool true]) ∧ Below w.heap.size w w' := by
  rcases h with ⟨h, rfl⟩ | ⟨rfl, rfl⟩
  · exact ruleOf_one o h w hg
  · exact ruleOf_add w
set_option maxHeartbeats 1600000 in
theorem has_empty (m : Nat) (hm : m = 1 ∨ m = 2) (A : Option Addr) (c : Nat) (w : World) (h : Xs w A m) : Calls Tryz.prog 124 #[.slice A m c, .string ⟨#[]⟩] w fun e w' => e = .returned (.bool false) ∧ w' = w := by
  obtain ⟨b, off, rfl, hb, hc⟩ := h
  have c0 : w.cell? ⟨b, off, none⟩ = some (.string ⟨#[120]⟩) := hc 0 (by omega)
  rcases hm with rfl | rfl
  · clear hc
    go_enter Tryz.func124, Tryz.ntmps124
    go_wp2
    refine wp_loop_rounds 2 ?_
    rw [rounds_succ]
    go_wp2
    rw [rounds_succ]
    go_wp2
    go_ret
    exact ⟨rfl, rfl⟩
  · have c1 := hc 1 (by omega)
    clear hc
    go_enter Tryz.func124, Tryz.ntmps124
    go_wp2
    refine wp_loop_rounds 3 ?_
    rw [rounds_succ]
    go_wp2
    rw [rounds_succ]
    go_wp2
    rw [rounds_succ]
    go_wp2
    go_ret
    exact ⟨rfl, rfl⟩
set_option maxHeartbeats 1600000 in
theorem has_x (m : Nat) (hm : m = 1 ∨ m = 2) (A : Option Addr) (c : Nat) (w : World) (h : Xs w A m) : Calls Tryz.prog 124 #[.slice A m c, .string ⟨#[120]⟩] w fun e w' => e = .returned (.bool true) ∧ w' = w := by
  obtain ⟨b, off, rfl, hb, hc⟩ := h
  have c0 : w.cell? ⟨b, off, none⟩ = some (.string ⟨#[120]⟩) := hc 0 (by omega)
  clear hc
  rcases hm with rfl | rfl
  all_goals
    go_enter Tryz.func124, Tryz.ntmps124
    go_wp2
    refine wp_loop_rounds 2 ?_
    rw [rounds_succ]
    go_wp2
    go_ret
    exact ⟨rfl, rfl⟩
end Go.Proofs.YtbilddeepnnogaaGreatDoor
end
/- Operators: a node may be. -/
section
set_option linter.unusedVariables false
namespace Go.Proofs.YtbilddeepnnogaaGreatDoor
open Go.RowKit Go.Shelf

set_option maxHeartbeats 3200000 in
theorem schemaCheck_any (op nm out : ByteArray) (A : Option Addr) (m c : Nat) (w : World) (hg : Gl w) (hx : Xs w A m) (ho : NdOp op m) (hout : (out.toList == []) = false) :
    Calls Tryz.prog 134 #[.agg #[.string op, .string nm, .slice A m c, .string out, .slice none 0 0]] w fun e w' => e = .returned (.int .i64 0) ∧ Below w.heap.size w w' := by
  have HO := Lib.hid ho
  have HX := Lib.hid hx
  have HG := Lib.hid hg
  clear ho hx hg
  go_enter Tryz.func134, Tryz.ntmps134
  go_wp2_with fail
  refine new_F (F := fun W => Calls _ _ _ W _) ?_
  intro w1 b1 g1 _
  refine (ruleOf_nd op m HO.out _ (HG.out.below b1)).mono ?_
  rintro e w2 ⟨rfl, b2⟩
  have hb2 := (Bx.mk b1 g1).all b2
  have g2 := hb2.g0
  have hb3 := hb2.new (.cells #[.int .i64 m, .int .i64 m, .string ⟨#[]⟩] 304)
  obtain ⟨r0, r1, r2, r3, r4, -⟩ := cells5 hb3.g0
  have HX3 := HX.out.below hb3.below
  have HB3 := Lib.hid hb3
  have n1 : w.heap.size ≠ w2.heap.size := by have := hb2.size; omega
  have HE := Lib.hid (fun W (h : Xs W A m) => has_empty m HO.out.cases A c W h)
  have l1 : decide ((m : Int) < (m : Int)) = false := by simp
  clear hb2 b2 b1 g1 g2 hb3
  go_wp2_with (go_at_call 124; refine (HE.out _ HX3).mono ?_; rintro e w' ⟨rfl, rfl⟩)
  clear r0 r1 r2 r3 r4 HE l1 hout
  refine (attrs_none _ _ _ _ _ _ _ (HG.out.below HB3.out.below)).mono ?_
  rintro e w3 ⟨rfl, hb⟩
  have hb4 := HB3.out.all hb
  clear hb HB3 HX3
  obtain ⟨r0, r1, r2, r3, r4, -⟩ := cells5 hb4.g0
  go_wp2_with fail
  refine (then_none _ _ _ _ _ _ _).mono ?_
  rintro e w4 ⟨rfl, hb⟩
  have hb5 := hb4.all hb
  clear hb hb4 r0 r1 r2 r3 r4
  obtain ⟨r0, r1, r2, r3, r4, -⟩ := cells5 hb5.g0
  go_wp2_with fail
  refine (find_none _ _ _ _ _ _ _ _ _).mono ?_
  rintro e w5 ⟨rfl, hb⟩
  have hb6 := hb5.all hb
  unfold zAt
  go_wp2_with fail
  go_ret
  exact ⟨rfl, (hb6.new _).below⟩
end Go.Proofs.YtbilddeepnnogaaGreatDoor
end
