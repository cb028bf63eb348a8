/- The walks: the small graph laid; a graph in memory. -/
import Derived.Test.YtkcnpnnflbibiaaFf
import Derived.Test.YtkcnpnnflbibiaaFe
import Derived.Test.YtkcnpnnflbibiaaEi
set_option linter.unusedVariables false
namespace Go.Proofs.Ytkcnpnnflbibiaa
open Go.RowKit

/-- Four slices that read as a graph's. -/
structure GrAt (g : Gr) (w : World) (Z : Nat → Prop) (A1 : Option Addr) (n1 : Nat) (A2 : Option Addr) (n2 : Nat) (A3 : Option Addr) (n3 : Nat) (A4 : Option Addr) (n4 : Nat) : Prop where
  nodes : Slc repNd w Z A1 n1 g.nodes
  ins : Slc repVl w Z A2 n2 g.ins
  outs : Slc repVl w Z A3 n3 g.outs
  inits : Slc repNm w Z A4 n4 g.inits
theorem GrAt.keep {g : Gr} {w w' : World} {Z Z' : Nat → Prop} {A1 A2 A3 A4 : Option Addr} {n1 n2 n3 n4 : Nat} (h : GrAt g w Z A1 n1 A2 n2 A3 n3 A4 n4) (hk : Keeps Z w w') (hZ : ∀ k, Z k → Z' k) : GrAt g w' Z' A1 n1 A2 n2 A3 n3 A4 n4 :=
  ⟨h.nodes.keep hk hZ, h.ins.keep hk hZ, h.outs.keep hk hZ, h.inits.keep hk hZ⟩
/-- The blocks from lo on. -/
def Since (lo : Nat) (w : World) : Nat → Prop := fun k => lo ≤ k ∧ k < w.heap.size
theorem GrAt.later {g : Gr} {w w' : World} {lo lo' : Nat} {A1 A2 A3 A4 : Option Addr} {n1 n2 n3 n4 : Nat} (h : GrAt g w (Since lo w) A1 n1 A2 n2 A3 n3 A4 n4) (hb : Below w.heap.size w w') (hlo : lo' ≤ lo) : GrAt g w' (Since lo' w') A1 n1 A2 n2 A3 n3 A4 n4 :=
  h.keep (fun k hk => hb.block k hk.2) (fun k hk => ⟨Nat.le_trans hlo hk.1, Nat.lt_of_lt_of_le hk.2 hb.size⟩)
theorem GrAt.of_rep {g : Gr} {w : World} {Z : Nat → Prop} {name : ByteArray} {A1 A2 A3 A4 : Option Addr} {n1 n2 n3 n4 c1 c2 c3 c4 : Nat} (h : repGr.R w Z [.string name, .slice A1 n1 c1, .slice A2 n2 c2, .slice A3 n3 c3, .slice A4 n4 c4] g) : name = g.name ∧ GrAt g w Z A1 n1 A2 n2 A3 n3 A4 n4 := by
  obtain ⟨d, e, f, k, he, h1, h2, h3, h4⟩ := h
  simp only [List.cons.injEq, Value.string.injEq, and_true] at he
  obtain ⟨rfl, rfl, rfl, rfl, rfl⟩ := he
  obtain ⟨_, _, _, e1, h1⟩ := h1
  obtain ⟨_, _, _, e2, h2⟩ := h2
  obtain ⟨_, _, _, e3, h3⟩ := h3
  obtain ⟨_, _, _, e4, h4⟩ := h4
  simp only [Value.slice.injEq] at e1 e2 e3 e4
  obtain ⟨rfl, rfl, rfl⟩ := e1
  obtain ⟨rfl, rfl, rfl⟩ := e2
  obtain ⟨rfl, rfl, rfl⟩ := e3
  obtain ⟨rfl, rfl, rfl⟩ := e4
  exact ⟨rfl, h1, h2, h3, h4⟩
/-- What Decode leaves, its result laid open. -/
def DecTo (g : Gr) (err : Int) (w : World) (e : Ending) (w' : World) : Prop :=
  ∃ A1 c1 A2 c2 A3 c3 A4 c4, e = .returned (.tuple #[.agg #[.string g.name, .slice A1 g.nodes.length c1, .slice A2 g.ins.length c2, .slice A3 g.outs.length c3, .slice A4 g.inits.length c4], .int .i64 err]) ∧ Below w.heap.size w w' ∧
    GrAt g w' (Since w.heap.size w') A1 g.nodes.length A2 g.ins.length A3 g.outs.length A4 g.inits.length
theorem decode_to (s : ByteArray) (w : World) (hs : s.size ≤ 140737488351232) : Calls Try.prog 9 #[.string s] w (DecTo (decG s) (decErr s) w) := (decode_any s w hs).mono fun e w' h => by
  obtain ⟨name, A1, n1, c1, A2, n2, c2, A3, n3, c3, A4, n4, c4, rfl, hb, hR⟩ := h
  obtain ⟨rfl, hg⟩ := GrAt.of_rep hR
  obtain rfl := hg.nodes.len
  obtain rfl := hg.ins.len
  obtain rfl := hg.outs.len
  obtain rfl := hg.inits.len
  exact ⟨A1, c1, A2, c2, A3, c3, A4, c4, rfl, hb, hg⟩
theorem decode_ok {s : ByteArray} {g : Gr} (h : decodeE s = .ok g) (hs : s.size ≤ 140737488351232) (w : World) : Calls Try.prog 9 #[.string s] w (DecTo g 0 w) := by
  have := decode_to s w hs
  rwa [show decG s = g by unfold decG; rw [h], show decErr s = 0 by unfold decErr; rw [h]] at this
theorem decode_no {s : ByteArray} {err : Int} (h : decodeE s = .error err) (hs : s.size ≤ 140737488351232) (w : World) : Calls Try.prog 9 #[.string s] w (DecTo gNone err w) := by
  have := decode_to s w hs
  rwa [show decG s = gNone by unfold decG; rw [h], show decErr s = err by unfold decErr; rw [h]] at this
theorem gNone_at (w : World) (Z : Nat → Prop) : GrAt gNone w Z none 0 none 0 none 0 none 0 := ⟨Slc.nil_, Slc.nil_, Slc.nil_, Slc.nil_⟩

def allocs (w : World) : List Obj → World
  | [] => w
  | o :: l => allocs (w.alloc o) l
theorem allocs_size (l : List Obj) : ∀ w : World, (allocs w l).heap.size = w.heap.size + l.length := by
  induction l with
  | nil => intro w; rfl
  | cons o l ih => intro w; simp only [allocs, ih, List.length_cons]; simp; omega
theorem allocs_below (l : List Obj) : ∀ (w w0 : World), Below w0.heap.size w0 w → Below w0.heap.size w0 (allocs w l) := by
  induction l with
  | nil => intro w w0 h; exact h
  | cons o l ih => intro w w0 h; exact ih _ _ (h.alloc h.size o)
theorem allocs_get (l : List Obj) : ∀ (w : World) (i : Nat) (o : Obj), l[i]? = some o → (allocs w l).heap[w.heap.size + i]? = some o := by
  induction l with
  | nil => intro w i o h; simp at h
  | cons o' l ih =>
    intro w i o h
    match i, h with
    | 0, h =>
      simp at h; subst h
      have hb := allocs_below l (w.alloc o') (w.alloc o') (Below.refl _ _)
      exact (hb.block w.heap.size (by simp)).trans (heap_alloc_new w o')
    | i + 1, h =>
      have h2 := ih (w.alloc o') i o (by simpa using h)
      have e : (w.alloc o').heap.size + i = w.heap.size + (i + 1) := by simp; omega
      rw [e] at h2
      exact h2
def smallO (n : Nat) : List Obj :=
  [.cells #[.string ⟨#[103]⟩, .slice (some ⟨n + 1 + 1 + 1 + 1 + 1 + 1, 0, none⟩) 1 1, .slice (some ⟨n + 1 + 1, 0, none⟩) 1 1, .slice (some ⟨n + 1 + 1 + 1 + 1, 0, none⟩) 1 1, .slice none 0 0] 34,
   .cells #[.int .i64 2] 3, .cells #[.string ⟨#[120]⟩, .int .i64 1, .slice (some ⟨n + 1, 0, none⟩) 1 1] 81, .cells #[.int .i64 2] 3,
   .cells #[.string ⟨#[121]⟩, .int .i64 1, .slice (some ⟨n + 1 + 1 + 1, 0, none⟩) 1 1] 81, .cells #[.string ⟨#[120]⟩] 9,
   .cells #[.string ⟨#[82, 101, 108, 117]⟩, .string ⟨#[]⟩, .slice (some ⟨n + 1 + 1 + 1 + 1 + 1, 0, none⟩) 1 1, .string ⟨#[121]⟩, .slice none 0 0] 67]
theorem small_at (w : World) : GrAt smallG (allocs w (smallO w.heap.size)) (Since w.heap.size (allocs w (smallO w.heap.size))) (some ⟨w.heap.size + 1 + 1 + 1 + 1 + 1 + 1, 0, none⟩) 1 (some ⟨w.heap.size + 1 + 1, 0, none⟩) 1 (some ⟨w.heap.size + 1 + 1 + 1 + 1, 0, none⟩) 1 none 0 := by
  have g1 := allocs_get (smallO w.heap.size) w 1 _ rfl
  have g2 := allocs_get (smallO w.heap.size) w 2 _ rfl
  have g3 := allocs_get (smallO w.heap.size) w 3 _ rfl
  have g4 := allocs_get (smallO w.heap.size) w 4 _ rfl
  have g5 := allocs_get (smallO w.heap.size) w 5 _ rfl
  have g6 := allocs_get (smallO w.heap.size) w 6 _ rfl
  have hs := allocs_size (smallO w.heap.size) w
  have hl : (smallO w.heap.size).length = 7 := rfl
  rw [hl] at hs
  clear hl
  generalize allocs w (smallO w.heap.size) = W at g1 g2 g3 g4 g5 g6 hs ⊢
  have z : ∀ k, w.heap.size ≤ k → k < w.heap.size + 7 → Since w.heap.size W k := fun k h1 h2 => ⟨h1, by omega⟩
  refine ⟨?_, ?_, ?_, Slc.nil_⟩
  · refine slc_temp (cs := [.string ⟨#[82, 101, 108, 117]⟩, .string ⟨#[]⟩, .slice (some ⟨w.heap.size + 1 + 1 + 1 + 1 + 1, 0, none⟩) 1 1, .string ⟨#[121]⟩, .slice none 0 0]) g6 ⟨_, _, rfl, ⟨_, _, _, rfl, ?_⟩, isSlc_nil _ _ _⟩ (z _ (by omega) (by omega))
    exact slc_temp (cs := [.string ⟨#[120]⟩]) g5 rfl (z _ (by omega) (by omega))
  · refine slc_temp (cs := [.string ⟨#[120]⟩, .int .i64 1, .slice (some ⟨w.heap.size + 1, 0, none⟩) 1 1]) g2 ⟨_, rfl, ⟨_, _, _, rfl, ?_⟩⟩ (z _ (by omega) (by omega))
    exact slc_temp (cs := [.int .i64 2]) g1 rfl (z _ (by omega) (by omega))
  · refine slc_temp (cs := [.string ⟨#[121]⟩, .int .i64 1, .slice (some ⟨w.heap.size + 1 + 1 + 1, 0, none⟩) 1 1]) g4 ⟨_, rfl, ⟨_, _, _, rfl, ?_⟩⟩ (z _ (by omega) (by omega))
    exact slc_temp (cs := [.int .i64 2]) g3 rfl (z _ (by omega) (by omega))
/-- What small leaves. -/
def SmallTo (w : World) (e : Ending) (w' : World) : Prop :=
  ∃ A1 c1 A2 c2 A3 c3, e = .returned (.agg #[.string ⟨#[103]⟩, .slice A1 1 c1, .slice A2 1 c2, .slice A3 1 c3, .slice none 0 0]) ∧ Below w.heap.size w w' ∧ GrAt smallG w' (Since w.heap.size w') A1 1 A2 1 A3 1 none 0
set_option maxRecDepth 100000 in
set_option maxHeartbeats 1600000 in
theorem small_any (w : World) : Calls Try.prog 17 #[] w (SmallTo w) := by
  go_enter Try.func17, Try.ntmps17
  go_wp2
  have g0 := allocs_get (smallO w.heap.size) w 0 _ rfl
  rw [Nat.add_zero] at g0
  have hb := allocs_below (smallO w.heap.size) w w (Below.refl _ _)
  have hat := small_at w
  refine bodyPost_ret (results_cell_row rfl _ _ w.heap.size 34 _ (0, 0) _ rfl g0 Try.underlying34 rfl (by kernel_rfl)) rfl ?_
  exact ⟨_, 1, _, 1, _, 1, rfl, hb, hat⟩
end Go.Proofs.Ytkcnpnnflbibiaa
