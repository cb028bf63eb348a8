/- A graph told in two parts: lists put behind lists; the joined graph in memory. -/
import Derived.Test.YtkcnpnnflbibiaaHi
set_option linter.unusedVariables false
namespace Go.Proofs.Ytkcnpnnflbibiaa
open Go.RowKit

/-- A list put behind an own list, in a row of operations. -/
theorem wpList_append_m {P : Program} (w : World) {α : Type} (ρ : Rep α) {ops : Array Oper} {rest : List Oper} {o : Oper} {a : Act} {Q : Exit → Act → World → Prop} (hgd : o.guard = none) (s y : Operand) (t : TypeId)
    (ho : o.op = .call { callee := .builtin .append, args := #[s, y], argTypes := #[t, t] }) (e : TypeId)
    (i : TypeInfo) (z : Value) (bytes : Nat) (ht : P.underlying t = some (.slice e)) (hi : P.info? e = some i) (hz : i.zero = some z) (hsize : i.size = ρ.sz) (hby : i.bytes = bytes) (hzc : z.cells.size = ρ.sz) (hsz : 0 < ρ.sz)
    (lab : Nat → Nat) (m : Nat) (hm : m ≠ 0) (lo : Nat) (v : Value) (l : List α) (hs : a.eval s = v) (hown : OL ρ e lab m w lo v l) (hfr : Fresh lab w) (A : Option Addr) (n c : Nat) (l2 : List α) (hx : a.eval y = .slice A n c) (hr : Slc ρ w (Zl lab lo w) A n l2)
    (hlen : (l.length + l2.length) * bytes ≤ 140737488355328) (hsm : l.length + l2.length ≤ maxLen) (hbase : lo ≤ w.heap.size)
    (h : ∀ v' w' lab', OL ρ e lab' m w' lo v' (l ++ l2) → Grew lab lab' m w w' → wpList P ops Q rest (a.put o.dst v') w') : wpList P ops Q (o :: rest) a w := by
  have hlt := hown.lt
  have hmark := hown.mark
  have hZ : ∀ k, Zl lab lo w k → k < w.heap.size ∧ v.ownBlock ≠ some k := fun k hk => ⟨hk.2.2, fun e => hm (by rw [← hmark k e]; exact hk.1)⟩
  refine wpList_append_l w hgd s y t ho ρ e i z bytes ht hi hz hsize hby hzc hsz lo (Zl lab lo w) v l hs hown.own (Zl lab lo w) A n c l2 hx hr hZ hZ hlen hsm hbase ?_
  intro v' w' q1 q2 q3
  have hz2 : w.heap.size ≤ w'.heap.size := q2.size
  have hv' : ∀ k, v'.ownBlock = some k → (v.ownBlock = some k ∧ k < w.heap.size) ∨ k = w.heap.size := by
    intro k hk
    rcases q3 with q3 | q3
    · rw [q3] at hk; exact .inl ⟨hk, (hlt k hk).2⟩
    · rw [q3] at hk; simp at hk; exact .inr hk.symm
  have hlt' := (q1 (Zl lab lo w) (fun _ h => h) (fun _ h => h)).lt
  have hz' : ∀ k, Zl lab lo w k → Zl (fun k => if v'.ownBlock = some k then m else lab k) lo w' k := by
    intro k hk
    refine ⟨?_, hk.2.1, Nat.lt_of_lt_of_le hk.2.2 hz2⟩
    dsimp only
    rw [if_neg]
    · exact hk.1
    · intro e
      rcases hv' k e with ⟨e1, _⟩ | e1
      · exact (hZ k hk).2 e1
      · have := hk.2.2; omega
  refine h v' w' (fun k => if v'.ownBlock = some k then m else lab k) ⟨q1 _ hz' hz', fun k hk => by simp [hk]⟩ ⟨q2.os, q2.tape, q2.output, hz2, fun k hk hne => q2.block k hk (fun e => hne (hmark k e.symm)), fun k hk => ?_, fun k hk => ?_⟩
  · split
    · next e =>
      rcases hv' k e with ⟨e1, _⟩ | e1
      · exact (hmark k e1).symm
      · omega
    · rfl
  · rw [if_neg]
    · exact hfr k (by omega)
    · intro e
      have := (hlt' k e).2
      omega
/-- The joined graph under way: its block, its lists; the second graph's block and lists. -/
structure JX (lo : Nat) (w wr : World) (xb yb : Nat) (h : Gr) (C1 C2 C3 C4 : Option Addr) (yrow : Obj) (name : ByteArray) (vn vi vo vt : Value) (ln : List Nd) (li lo_ : List Vl) (lt : List Nm) (lab : Nat → Nat) : Prop where
  below : Below lo w wr
  row : wr.heap[xb]? = some (.cells #[.string name, vn, vi, vo, vt] 34 (0, 0))
  yr : wr.heap[yb]? = some yrow
  on : OL repNd 67 lab 1 wr lo vn ln
  oi : OL repVl 81 lab 2 wr lo vi li
  oo : OL repVl 81 lab 3 wr lo vo lo_
  ot : OL repNm 69 lab 4 wr lo vt lt
  fr : Fresh lab wr
  low : ∀ k, k < lo → lab k = 0
  lx : lab xb = 5
  ly : lab yb = 5
  ne : xb ≠ yb
  xs : xb < wr.heap.size
  ys : yb < wr.heap.size
  los : lo ≤ wr.heap.size
  y : GrAt h wr (Zl lab lo wr) C1 h.nodes.length C2 h.ins.length C3 h.outs.length C4 h.inits.length
section
variable {lo : Nat} {w wr w' : World} {xb yb : Nat} {h : Gr} {C1 C2 C3 C4 : Option Addr} {yrow : Obj} {name : ByteArray} {vn vi vo vt v' : Value} {ln ln' : List Nd} {li lo_ li' lo_' : List Vl} {lt lt' : List Nm} {lab lab' : Nat → Nat}
theorem GrAt.grew {i : Nat} (hy : GrAt h wr (Zl lab lo wr) C1 h.nodes.length C2 h.ins.length C3 h.outs.length C4 h.inits.length) (hg : Grew lab lab' i wr w') (hi : i ≠ 0) : GrAt h w' (Zl lab' lo w') C1 h.nodes.length C2 h.ins.length C3 h.outs.length C4 h.inits.length :=
  hy.keep (fun k hk => hg.keep k hk.2.2 (by rw [hk.1]; exact fun e => hi e.symm)) (fun k hk => ⟨by rw [hg.lab k hk.2.2]; exact hk.1, hk.2.1, Nat.lt_of_lt_of_le hk.2.2 hg.size⟩)
theorem GrAt.set5 {a : Addr} (hy : GrAt h wr (Zl lab lo wr) C1 h.nodes.length C2 h.ins.length C3 h.outs.length C4 h.inits.length) (h0 : lab a.block ≠ 0) (u : Value) : GrAt h (wr.setCell a u) (Zl lab lo (wr.setCell a u)) C1 h.nodes.length C2 h.ins.length C3 h.outs.length C4 h.inits.length :=
  hy.keep (fun k hk => Below.heap_setCell _ _ _ _ (fun e => h0 (by rw [← e]; exact hk.1))) (fun k hk => ⟨hk.1, hk.2.1, by simpa [World.setCell] using hk.2.2⟩)
theorem JX.block (j : JX lo w wr xb yb h C1 C2 C3 C4 yrow name vn vi vo vt ln li lo_ lt lab) {i : Nat} (hi : i ≠ 5) (hi0 : i ≠ 0) (hg : Grew lab lab' i wr w') : w'.heap[xb]? = wr.heap[xb]? ∧ w'.heap[yb]? = wr.heap[yb]? ∧ lab' xb = 5 ∧ lab' yb = 5 ∧ Below lo w w' ∧ ∀ k, k < lo → lab' k = 0 := by
  refine ⟨hg.keep _ j.xs (by rw [j.lx]; exact fun e => hi e.symm), hg.keep _ j.ys (by rw [j.ly]; exact fun e => hi e.symm), by rw [hg.lab _ j.xs]; exact j.lx, by rw [hg.lab _ j.ys]; exact j.ly, ⟨hg.os.trans j.below.os, hg.tape.trans j.below.tape, hg.output.trans j.below.output, Nat.le_trans j.below.size hg.size, fun k hk => (hg.keep k (Nat.lt_of_lt_of_le hk j.los) (by rw [j.low k hk]; exact fun e => hi0 e.symm)).trans (j.below.block k hk)⟩, fun k hk => by rw [hg.lab k (Nat.lt_of_lt_of_le hk j.los)]; exact j.low k hk⟩
theorem JX.setn (j : JX lo w wr xb yb h C1 C2 C3 C4 yrow name vn vi vo vt ln li lo_ lt lab) (hx : lo ≤ xb) (nm : ByteArray) : JX lo w (wr.setCell ⟨xb, 0, none⟩ (.string nm)) xb yb h C1 C2 C3 C4 yrow nm vn vi vo vt ln li lo_ lt lab := by
  have l0 : lab xb ≠ 0 := by rw [j.lx]; decide
  have zz : (wr.setCell ⟨xb, 0, none⟩ (.string nm)).heap.size = wr.heap.size := by simp
  refine ⟨j.below.setCell (by exact hx) _, ?_, (Below.heap_setCell _ _ _ _ (fun e => j.ne e.symm)).trans j.yr, j.on.set_lab l0 (by show lab xb ≠ 1; rw [j.lx]; decide) _, j.oi.set_lab l0 (by show lab xb ≠ 2; rw [j.lx]; decide) _, j.oo.set_lab l0 (by show lab xb ≠ 3; rw [j.lx]; decide) _, j.ot.set_lab l0 (by show lab xb ≠ 4; rw [j.lx]; decide) _, fun k hk => j.fr k (by rw [zz] at hk; exact hk), j.low, j.lx, j.ly, j.ne, by rw [zz]; exact j.xs, by rw [zz]; exact j.ys, by rw [zz]; exact j.los, j.y.set5 l0 _⟩
  have := heap_setCell_same wr xb 0 _ 34 (.string nm) j.row
  simpa using this
theorem JX.more1 (j : JX lo w wr xb yb h C1 C2 C3 C4 yrow name vn vi vo vt ln li lo_ lt lab) (hx : lo ≤ xb) (hg : Grew lab lab' 1 wr w') (ho : OL repNd 67 lab' 1 w' lo v' ln') : JX lo w (w'.setCell ⟨xb, 1, none⟩ v') xb yb h C1 C2 C3 C4 yrow name v' vi vo vt ln' li lo_ lt lab' := by
  obtain ⟨b1, b2, b3, b4, b5, b6⟩ := j.block (by decide) (by decide) hg
  have zz : (w'.setCell ⟨xb, 1, none⟩ v').heap.size = w'.heap.size := by simp
  have zg := hg.size
  have z1 := j.xs
  have z2 := j.ys
  have z3 := j.los
  refine ⟨b5.setCell (by exact hx) _, ?_, (Below.heap_setCell _ _ _ _ (fun e => j.ne e.symm)).trans (b2.trans j.yr), ho.set_lab (by show lab' xb ≠ 0; omega) (by show lab' xb ≠ 1; omega) _, (j.oi.other hg (by decide) (by decide)).set_lab (by show lab' xb ≠ 0; omega) (by show lab' xb ≠ 2; omega) _, (j.oo.other hg (by decide) (by decide)).set_lab (by show lab' xb ≠ 0; omega) (by show lab' xb ≠ 3; omega) _, (j.ot.other hg (by decide) (by decide)).set_lab (by show lab' xb ≠ 0; omega) (by show lab' xb ≠ 4; omega) _, fun k hk => hg.fresh k (by rw [zz] at hk; exact hk), b6, b3, b4, j.ne, by rw [zz]; omega, by rw [zz]; omega, by rw [zz]; omega, (j.y.grew hg (by decide)).set5 (by show lab' xb ≠ 0; omega) _⟩
  have := heap_setCell_same w' xb 1 _ 34 v' (b1.trans j.row)
  simpa using this
theorem JX.more2 (j : JX lo w wr xb yb h C1 C2 C3 C4 yrow name vn vi vo vt ln li lo_ lt lab) (hx : lo ≤ xb) (hg : Grew lab lab' 2 wr w') (ho : OL repVl 81 lab' 2 w' lo v' li') : JX lo w (w'.setCell ⟨xb, 2, none⟩ v') xb yb h C1 C2 C3 C4 yrow name vn v' vo vt ln li' lo_ lt lab' := by
  obtain ⟨b1, b2, b3, b4, b5, b6⟩ := j.block (by decide) (by decide) hg
  have zz : (w'.setCell ⟨xb, 2, none⟩ v').heap.size = w'.heap.size := by simp
  have zg := hg.size
  have z1 := j.xs
  have z2 := j.ys
  have z3 := j.los
  refine ⟨b5.setCell (by exact hx) _, ?_, (Below.heap_setCell _ _ _ _ (fun e => j.ne e.symm)).trans (b2.trans j.yr), (j.on.other hg (by decide) (by decide)).set_lab (by show lab' xb ≠ 0; omega) (by show lab' xb ≠ 1; omega) _, ho.set_lab (by show lab' xb ≠ 0; omega) (by show lab' xb ≠ 2; omega) _, (j.oo.other hg (by decide) (by decide)).set_lab (by show lab' xb ≠ 0; omega) (by show lab' xb ≠ 3; omega) _, (j.ot.other hg (by decide) (by decide)).set_lab (by show lab' xb ≠ 0; omega) (by show lab' xb ≠ 4; omega) _, fun k hk => hg.fresh k (by rw [zz] at hk; exact hk), b6, b3, b4, j.ne, by rw [zz]; omega, by rw [zz]; omega, by rw [zz]; omega, (j.y.grew hg (by decide)).set5 (by show lab' xb ≠ 0; omega) _⟩
  have := heap_setCell_same w' xb 2 _ 34 v' (b1.trans j.row)
  simpa using this
theorem JX.more3 (j : JX lo w wr xb yb h C1 C2 C3 C4 yrow name vn vi vo vt ln li lo_ lt lab) (hx : lo ≤ xb) (hg : Grew lab lab' 3 wr w') (ho : OL repVl 81 lab' 3 w' lo v' lo_') : JX lo w (w'.setCell ⟨xb, 3, none⟩ v') xb yb h C1 C2 C3 C4 yrow name vn vi v' vt ln li lo_' lt lab' := by
  obtain ⟨b1, b2, b3, b4, b5, b6⟩ := j.block (by decide) (by decide) hg
  have zz : (w'.setCell ⟨xb, 3, none⟩ v').heap.size = w'.heap.size := by simp
  have zg := hg.size
  have z1 := j.xs
  have z2 := j.ys
  have z3 := j.los
  refine ⟨b5.setCell (by exact hx) _, ?_, (Below.heap_setCell _ _ _ _ (fun e => j.ne e.symm)).trans (b2.trans j.yr), (j.on.other hg (by decide) (by decide)).set_lab (by show lab' xb ≠ 0; omega) (by show lab' xb ≠ 1; omega) _, (j.oi.other hg (by decide) (by decide)).set_lab (by show lab' xb ≠ 0; omega) (by show lab' xb ≠ 2; omega) _, ho.set_lab (by show lab' xb ≠ 0; omega) (by show lab' xb ≠ 3; omega) _, (j.ot.other hg (by decide) (by decide)).set_lab (by show lab' xb ≠ 0; omega) (by show lab' xb ≠ 4; omega) _, fun k hk => hg.fresh k (by rw [zz] at hk; exact hk), b6, b3, b4, j.ne, by rw [zz]; omega, by rw [zz]; omega, by rw [zz]; omega, (j.y.grew hg (by decide)).set5 (by show lab' xb ≠ 0; omega) _⟩
  have := heap_setCell_same w' xb 3 _ 34 v' (b1.trans j.row)
  simpa using this
theorem JX.more4 (j : JX lo w wr xb yb h C1 C2 C3 C4 yrow name vn vi vo vt ln li lo_ lt lab) (hx : lo ≤ xb) (hg : Grew lab lab' 4 wr w') (ho : OL repNm 69 lab' 4 w' lo v' lt') : JX lo w (w'.setCell ⟨xb, 4, none⟩ v') xb yb h C1 C2 C3 C4 yrow name vn vi vo v' ln li lo_ lt' lab' := by
  obtain ⟨b1, b2, b3, b4, b5, b6⟩ := j.block (by decide) (by decide) hg
  have zz : (w'.setCell ⟨xb, 4, none⟩ v').heap.size = w'.heap.size := by simp
  have zg := hg.size
  have z1 := j.xs
  have z2 := j.ys
  have z3 := j.los
  refine ⟨b5.setCell (by exact hx) _, ?_, (Below.heap_setCell _ _ _ _ (fun e => j.ne e.symm)).trans (b2.trans j.yr), (j.on.other hg (by decide) (by decide)).set_lab (by show lab' xb ≠ 0; omega) (by show lab' xb ≠ 1; omega) _, (j.oi.other hg (by decide) (by decide)).set_lab (by show lab' xb ≠ 0; omega) (by show lab' xb ≠ 2; omega) _, (j.oo.other hg (by decide) (by decide)).set_lab (by show lab' xb ≠ 0; omega) (by show lab' xb ≠ 3; omega) _, ho.set_lab (by show lab' xb ≠ 0; omega) (by show lab' xb ≠ 4; omega) _, fun k hk => hg.fresh k (by rw [zz] at hk; exact hk), b6, b3, b4, j.ne, by rw [zz]; omega, by rw [zz]; omega, by rw [zz]; omega, (j.y.grew hg (by decide)).set5 (by show lab' xb ≠ 0; omega) _⟩
  have := heap_setCell_same w' xb 4 _ 34 v' (b1.trans j.row)
  simpa using this
end
end Go.Proofs.Ytkcnpnnflbibiaa
