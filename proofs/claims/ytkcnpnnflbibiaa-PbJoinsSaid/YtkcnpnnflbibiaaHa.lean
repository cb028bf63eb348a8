/- Copies: a list put behind nothing; one list that grows alone. -/
import Derived.Test.YtkcnpnnflbibiaaDd
import Derived.Test.YtkcnpnnflbibiaaZi
set_option linter.unusedVariables false
namespace Go.Proofs.Ytkcnpnnflbibiaa
open Go.RowKit

/-- A rep that no memory holds. -/
def Flat {α : Type} (ρ : Rep α) : Prop := ∀ w w' Z Z' cs x, ρ.R w Z cs x → ρ.R w' Z' cs x
theorem flat_int : Flat repInt := fun _ _ _ _ _ _ h => h
theorem flat_str : Flat repStr := fun _ _ _ _ _ _ h => h
theorem ownL_free {α : Type} {ρ : Rep α} (hf : Flat ρ) {e : TypeId} {w : World} {B : Nat} {Z Z' : Nat → Prop} {v : Value} {l : List α} (h : OwnL ρ e w B Z v l) : OwnL ρ e w B Z' v l := by
  obtain ⟨xs, hx, hr⟩ := h.own
  exact ⟨⟨xs, hx, fun j x hj => by
    obtain ⟨cs, h1, h2⟩ := hr j x hj
    exact ⟨cs, hf _ _ _ _ _ _ h1, h2⟩⟩, h.small⟩
/-- The blocks since a world. -/
abbrev New (lo : Nat) (w : World) : Nat → Prop := fun k => lo ≤ k ∧ k < w.heap.size
theorem ownL_isSlc {α : Type} {ρ : Rep α} (hf : Flat ρ) (hsz : 0 < ρ.sz) {e : TypeId} {w : World} {B : Nat} {Z : Nat → Prop} {v : Value} {l : List α} (h : OwnL ρ e w B Z v l) : ∃ A c, v = .slice A l.length c ∧ Slc ρ w (New B w) A l.length l := by
  have h2 := ownL_free hf (Z' := New B w) h
  obtain ⟨A, c, rfl⟩ := h2.form
  refine ⟨A, c, rfl, h2.slc rfl hsz (fun _ h => h) fun a ha => ?_⟩
  subst ha
  exact h2.lt _ (by
    obtain ⟨xs, hx, _⟩ := h2.own
    rcases hx.2 with ⟨h1, _⟩ | ⟨g, cap, cur, h1, _⟩
    · simp at h1
    · simp only [Value.slice.injEq] at h1
      obtain ⟨h2, -, -⟩ := h1
      cases h2
      rfl)
theorem own_isSlc3 {w : World} {B : Nat} {v : Value} {l : List Int} (h : Own w B v l) : ∃ A c, v = .slice A l.length c ∧ Slc repInt w (New B w) A l.length l := by
  refine ownL_isSlc flat_int (by decide) (e := 3) (Z := fun _ => False) ⟨⟨vals l, h.1, fun j x hj => ⟨_, rfl, fun i hi => ?_⟩⟩, h.2⟩
  have : i = 0 := by simp [repInt] at hi; omega
  subst this
  show (vals l)[j * 1 + 0]? = [Value.int .i64 x][0]?
  simp [vals, hj]
/-- A list behind nothing, in a row of operations. -/
theorem wpList_append_n {P : Program} (w : World) {α : Type} (ρ : Rep α) (hfl : Flat ρ) {ops : Array Oper} {rest : List Oper} {o : Oper} {a : Act} {Q : Exit → Act → World → Prop} (hgd : o.guard = none) (s y : Operand) (t : TypeId)
    (ho : o.op = .call { callee := .builtin .append, args := #[s, y], argTypes := #[t, t] }) (e : TypeId)
    (i : TypeInfo) (z : Value) (bytes : Nat) (ht : P.underlying t = some (.slice e)) (hi : P.info? e = some i) (hz : i.zero = some z) (hsize : i.size = ρ.sz) (hby : i.bytes = bytes) (hzc : z.cells.size = ρ.sz) (hsz : 0 < ρ.sz)
    (hs : a.eval s = .slice none 0 0) (Zr : Nat → Prop) (A : Option Addr) (m c : Nat) (l2 : List α) (hx : a.eval y = .slice A m c) (hr : Slc ρ w Zr A m l2) (hZr : ∀ k, Zr k → k < w.heap.size) (hlen : l2.length * bytes ≤ 140737488355328)
    (h : ∀ A' c' w', Slc ρ w' (New w.heap.size w') A' l2.length l2 → Below w.heap.size w w' → wpList P ops Q rest (a.put o.dst (.slice A' l2.length c')) w') : wpList P ops Q (o :: rest) a w := by
  refine wpList_append_l w hgd s y t ho ρ e i z bytes ht hi hz hsize hby hzc hsz w.heap.size (fun _ => False) (.slice none 0 0) [] hs ownL_nil Zr A m c l2 hx hr (fun k h => h.elim) (fun k hk => ⟨hZr k hk, by simp [Value.ownBlock]⟩) (by simpa using hlen) (by have := hr.len; have := hr.small; simp; omega) (Nat.le_refl _) ?_
  intro v' w' q1 q2 q3
  have ho := q1 (fun _ => True) (fun _ h => h.elim) (fun _ _ => trivial)
  rw [List.nil_append] at ho
  obtain ⟨A', c', rfl, hsl⟩ := ownL_isSlc hfl hsz ho
  exact h A' c' w' hsl ⟨q2.os, q2.tape, q2.output, q2.size, fun k hk => q2.block k hk (by simp [Value.ownBlock])⟩
/-- The same at a step of a region that draws. -/
theorem step_append_n {P : Program} (w : World) {α : Type} (ρ : Rep α) (hfl : Flat ρ) {ops : Array Oper} {o : Oper} {a : Act} {K : Act → World → Prop} {Q : Exit → Act → World → Prop} {E : Prop} (hgd : o.guard = none) (s y : Operand) (t : TypeId)
    (ho : o.op = .call { callee := .builtin .append, args := #[s, y], argTypes := #[t, t] }) (e : TypeId)
    (i : TypeInfo) (z : Value) (bytes : Nat) (ht : P.underlying t = some (.slice e)) (hi : P.info? e = some i) (hz : i.zero = some z) (hsize : i.size = ρ.sz) (hby : i.bytes = bytes) (hzc : z.cells.size = ρ.sz) (hsz : 0 < ρ.sz)
    (hs : a.eval s = .slice none 0 0) (Zr : Nat → Prop) (A : Option Addr) (m c : Nat) (l2 : List α) (hx : a.eval y = .slice A m c) (hr : Slc ρ w Zr A m l2) (hZr : ∀ k, Zr k → k < w.heap.size) (hlen : l2.length * bytes ≤ 140737488355328)
    (h : ∀ A' c' w', Slc ρ w' (New w.heap.size w') A' l2.length l2 → Below w.heap.size w w' → K (a.put o.dst (.slice A' l2.length c')) w') :
    if Region.wanted o (yielded ops a.tmps) = true then Oper.wp P o a w K Q else E := by
  refine step_append_l w hgd s y t ho ρ e i z bytes ht hi hz hsize hby hzc hsz w.heap.size (fun _ => False) (.slice none 0 0) [] hs ownL_nil Zr A m c l2 hx hr (fun k h => h.elim) (fun k hk => ⟨hZr k hk, by simp [Value.ownBlock]⟩) (by simpa using hlen) (by have := hr.len; have := hr.small; simp; omega) (Nat.le_refl _) ?_
  intro v' w' q1 q2 q3
  have ho := q1 (fun _ => True) (fun _ h => h.elim) (fun _ _ => trivial)
  rw [List.nil_append] at ho
  obtain ⟨A', c', rfl, hsl⟩ := ownL_isSlc hfl hsz ho
  exact h A' c' w' hsl ⟨q2.os, q2.tape, q2.output, q2.size, fun k hk => q2.block k hk (by simp [Value.ownBlock])⟩
/-- One list that grows alone since the world w1. -/
structure CInv {α : Type} (ρ : Rep α) (e : TypeId) (w1 wr : World) (v : Value) (l : List α) (lab : Nat → Nat) : Prop where
  own : OL ρ e lab 1 wr w1.heap.size v l
  fr : Fresh lab wr
  low : ∀ k, k < w1.heap.size → lab k = 0
  below : Below w1.heap.size w1 wr
section
variable {α : Type} {ρ : Rep α} {e : TypeId} {w1 wr w' : World} {v v' : Value} {l l' : List α} {lab lab' : Nat → Nat}
theorem CInv.start (ρ : Rep α) (e : TypeId) (w : World) : CInv ρ e w w (.slice none 0 0) [] (fun _ => 0) := ⟨ol_nil _ _ _ _ _ _, fresh_none _, fun _ _ => rfl, Below.refl _ _⟩
theorem CInv.later (h : CInv ρ e w1 wr v l lab) (hb : Below wr.heap.size wr w') : CInv ρ e w1 w' v l lab := ⟨h.own.below hb, h.fr.more hb.size, h.low, h.below.trans (hb.mono h.below.size)⟩
theorem CInv.more (h : CInv ρ e w1 wr v l lab) (hg : Grew lab lab' 1 wr w') (ho : OL ρ e lab' 1 w' w1.heap.size v' l') : CInv ρ e w1 w' v' l' lab' :=
  ⟨ho, hg.fresh, fun k hk => (hg.lab k (Nat.lt_of_lt_of_le hk h.below.size)).trans (h.low k hk), ⟨hg.os.trans h.below.os, hg.tape.trans h.below.tape, hg.output.trans h.below.output, Nat.le_trans h.below.size hg.size, fun k hk => (hg.keep k (Nat.lt_of_lt_of_le hk h.below.size) (by rw [h.low k hk]; decide)).trans (h.below.block k hk)⟩⟩
theorem CInv.set_far (h : CInv ρ e w1 wr v l lab) {a : Addr} {B : Nat} {w : World} (ha : a.block < w1.heap.size) (u : Value) : OL ρ e lab 1 (wr.setCell a u) w1.heap.size v l := h.own.set_far ha u
end
end Go.Proofs.Ytkcnpnnflbibiaa
