/- Copies: graphs. -/
import Derived.Test.YtkcnpnnflbibiaaHf
set_option linter.unusedVariables false
namespace Go.Proofs.Ytkcnpnnflbibiaa
open Go.RowKit

section
variable {α : Type} {ρ : Rep α} {e : TypeId} {lab lab' : Nat → Nat} {i j : Nat} {w w' : World} {lo lo' : Nat} {v : Value} {l : List α}
theorem OL.set_lab (h : OL ρ e lab i w lo v l) {a : Addr} (h0 : lab a.block ≠ 0) (hi : lab a.block ≠ i) (u : Value) : OL ρ e lab i (w.setCell a u) lo v l :=
  ⟨h.own.keep (fun k hk => Below.heap_setCell _ _ _ _ (fun e => hi (by rw [← e]; exact h.mark k hk))) (fun k hk => Below.heap_setCell _ _ _ _ (fun e => h0 (by rw [← e]; exact hk.1))) (fun k hk => ⟨hk.1, hk.2.1, by simpa [World.setCell] using hk.2.2⟩), h.mark⟩
theorem OL.relabel (h : OL ρ e lab i w lo v l) (hlo : lo' ≤ lo) (hm : ∀ k, v.ownBlock = some k → lab' k = j) (h0 : ∀ k, lo ≤ k → k < w.heap.size → lab k = 0 → lab' k = 0) (hk : ∀ k, lo ≤ k → k < w.heap.size → w'.heap[k]? = w.heap[k]?) (hs : w.heap.size ≤ w'.heap.size) : OL ρ e lab' j w' lo' v l :=
  ⟨(h.own.keep (w' := w') (Z' := Zl lab' lo' w') (fun k hv => hk k (h.lt k hv).1 (h.lt k hv).2) (fun k hz => hk k hz.2.1 hz.2.2) (fun k hz => ⟨h0 k hz.2.1 hz.2.2 hz.1, Nat.le_trans hlo hz.2.1, Nat.lt_of_lt_of_le hz.2.2 hs⟩)).lower hlo, hm⟩
end
theorem OL.far {α : Type} {ρ : Rep α} {e : TypeId} {lab : Nat → Nat} {i : Nat} {w w' : World} {lo : Nat} {v : Value} {l : List α} (h : OL ρ e lab i w lo v l) {x : Nat} (h0 : lab x ≠ 0) (hi : lab x ≠ i) (hk : ∀ k, k ≠ x → w'.heap[k]? = w.heap[k]?) (hs : w'.heap.size = w.heap.size) : OL ρ e lab i w' lo v l :=
  ⟨h.own.keep (fun k hv => hk k (fun e => hi (by rw [← e]; exact h.mark k hv))) (fun k hz => hk k (fun e => h0 (by rw [← e]; exact hz.1))) (fun k hz => ⟨hz.1, hz.2.1, by rw [hs]; exact hz.2.2⟩), h.mark⟩
/-- Own lists of a graph, each with its mark. -/
structure GO (g : Gr) (lab : Nat → Nat) (w : World) (lo : Nat) (vn vi vo vt : Value) : Prop where
  on : OL repNd 67 lab 1 w lo vn g.nodes
  oi : OL repVl 81 lab 2 w lo vi g.ins
  oo : OL repVl 81 lab 3 w lo vo g.outs
  ot : OL repNm 69 lab 4 w lo vt g.inits
  fr : Fresh lab w
  low : ∀ k, k < lo → lab k = 0
/-- What a copy of a graph leaves. -/
def CopIs (g : Gr) (w : World) (e : Ending) (w' : World) : Prop := ∃ An cn Ai ci Ao co At_ ct lab, e = .returned (.agg #[.string g.name, .slice An g.nodes.length cn, .slice Ai g.ins.length ci, .slice Ao g.outs.length co, .slice At_ g.inits.length ct]) ∧ GO g lab w' w.heap.size (.slice An g.nodes.length cn) (.slice Ai g.ins.length ci) (.slice Ao g.outs.length co) (.slice At_ g.inits.length ct) ∧ Below w.heap.size w w'
/-- A graph under way. -/
structure CI (w : World) (box : Obj) (name : ByteArray) (gb : Nat) (vi vo : Value) (li lo : List Vl) (wr : World) (vn : Value) (ln : List Nd) (vt : Value) (lt : List Nm) (lab : Nat → Nat) : Prop where
  below : Below w.heap.size w wr
  box : wr.heap[w.heap.size]? = some box
  res : wr.heap[w.heap.size + 1]? = some (.cells #[.string ⟨#[]⟩, .slice none 0 0, .slice none 0 0, .slice none 0 0, .slice none 0 0] 34 (0, 0))
  row : wr.heap[gb]? = some (.cells #[.string name, vn, vi, vo, vt] 34 (0, 0))
  on : OL repNd 67 lab 1 wr w.heap.size vn ln
  oi : OL repVl 81 lab 2 wr w.heap.size vi li
  oo : OL repVl 81 lab 3 wr w.heap.size vo lo
  ot : OL repNm 69 lab 4 wr w.heap.size vt lt
  fr : Fresh lab wr
  low : ∀ k, k < w.heap.size → lab k = 0
  l0 : lab w.heap.size = 5
  l1 : lab (w.heap.size + 1) = 5
  lg : lab gb = 5
  gt : w.heap.size + 2 ≤ gb
  size : gb < wr.heap.size
section
variable {w : World} {box : Obj} {name : ByteArray} {gb : Nat} {vi vo : Value} {li lo : List Vl} {wr w' : World} {vn vn' : Value} {ln ln' : List Nd} {vt vt' : Value} {lt lt' : List Nm} {lab lab' : Nat → Nat}
theorem CI.later (h : CI w box name gb vi vo li lo wr vn ln vt lt lab) (hb : Below wr.heap.size wr w') : CI w box name gb vi vo li lo w' vn ln vt lt lab := by
  have z := h.size
  have z2 := h.gt
  exact ⟨h.below.trans (hb.mono h.below.size), (hb.block _ (by omega)).trans h.box, (hb.block _ (by omega)).trans h.res, (hb.block _ z).trans h.row, h.on.below hb, h.oi.below hb, h.oo.below hb, h.ot.below hb, h.fr.more hb.size, h.low, h.l0, h.l1, h.lg, h.gt, Nat.lt_of_lt_of_le z hb.size⟩
theorem CI.keep5 (h : CI w box name gb vi vo li lo wr vn ln vt lt lab) {i : Nat} (hi : i ≠ 5) (hg : Grew lab lab' i wr w') {k : Nat} (hk : k = w.heap.size ∨ k = w.heap.size + 1 ∨ k = gb) : w'.heap[k]? = wr.heap[k]? ∧ lab' k = 5 := by
  have z := h.size
  have z2 := h.gt
  have hl : lab k = 5 := by rcases hk with rfl | rfl | rfl; exact h.l0; exact h.l1; exact h.lg
  exact ⟨hg.keep k (by omega) (by rw [hl]; exact fun e => hi e.symm), by rw [hg.lab k (by omega)]; exact hl⟩
theorem CI.lowK (h : CI w box name gb vi vo li lo wr vn ln vt lt lab) {i : Nat} (hi : i ≠ 0) (hg : Grew lab lab' i wr w') {k : Nat} (hk : k < w.heap.size) : w'.heap[k]? = wr.heap[k]? ∧ lab' k = 0 := by
  have z := h.size
  have z2 := h.gt
  exact ⟨hg.keep k (by omega) (by rw [h.low k hk]; exact fun e => hi e.symm), by rw [hg.lab k (by omega)]; exact h.low k hk⟩
theorem CI.moreN (h : CI w box name gb vi vo li lo wr vn ln vt lt lab) (hg : Grew lab lab' 1 wr w') (ho : OL repNd 67 lab' 1 w' w.heap.size vn' ln') : CI w box name gb vi vo li lo (w'.setCell ⟨gb, 1, none⟩ vn') vn' ln' vt lt lab' := by
  have z := h.size
  have z2 := h.gt
  obtain ⟨k0, m0⟩ := h.keep5 (by decide) hg (.inl rfl)
  obtain ⟨k1, m1⟩ := h.keep5 (by decide) hg (.inr (.inl rfl))
  obtain ⟨kg, mg⟩ := h.keep5 (by decide) hg (.inr (.inr rfl))
  have sf : ∀ k, k ≠ gb → (w'.setCell ⟨gb, 1, none⟩ vn').heap[k]? = w'.heap[k]? := fun k hk => Below.heap_setCell _ _ _ _ hk
  refine ⟨⟨hg.os.trans h.below.os, hg.tape.trans h.below.tape, hg.output.trans h.below.output, by have := h.below.size; have := hg.size; simp; omega, fun k hk => (sf k (by omega)).trans ((h.lowK (by decide) hg hk).1.trans (h.below.block k hk))⟩, (sf _ (by omega)).trans (k0.trans h.box), (sf _ (by omega)).trans (k1.trans h.res), ?_, ho.set_lab (by show lab' gb ≠ 0; omega) (by show lab' gb ≠ 1; omega) _, (h.oi.other hg (by decide) (by decide)).set_lab (by show lab' gb ≠ 0; omega) (by show lab' gb ≠ 2; omega) _, (h.oo.other hg (by decide) (by decide)).set_lab (by show lab' gb ≠ 0; omega) (by show lab' gb ≠ 3; omega) _, (h.ot.other hg (by decide) (by decide)).set_lab (by show lab' gb ≠ 0; omega) (by show lab' gb ≠ 4; omega) _, fun k hk => hg.fresh k (by simpa using hk), fun k hk => (h.lowK (by decide) hg hk).2, m0, m1, mg, h.gt, by have := hg.size; simp; omega⟩
  have := heap_setCell_same w' gb 1 _ 34 vn' (kg.trans h.row)
  simpa using this
theorem CI.moreT (h : CI w box name gb vi vo li lo wr vn ln vt lt lab) (hg : Grew lab lab' 4 wr w') (ho : OL repNm 69 lab' 4 w' w.heap.size vt' lt') : CI w box name gb vi vo li lo (w'.setCell ⟨gb, 4, none⟩ vt') vn ln vt' lt' lab' := by
  have z := h.size
  have z2 := h.gt
  obtain ⟨k0, m0⟩ := h.keep5 (by decide) hg (.inl rfl)
  obtain ⟨k1, m1⟩ := h.keep5 (by decide) hg (.inr (.inl rfl))
  obtain ⟨kg, mg⟩ := h.keep5 (by decide) hg (.inr (.inr rfl))
  have sf : ∀ k, k ≠ gb → (w'.setCell ⟨gb, 4, none⟩ vt').heap[k]? = w'.heap[k]? := fun k hk => Below.heap_setCell _ _ _ _ hk
  refine ⟨⟨hg.os.trans h.below.os, hg.tape.trans h.below.tape, hg.output.trans h.below.output, by have := h.below.size; have := hg.size; simp; omega, fun k hk => (sf k (by omega)).trans ((h.lowK (by decide) hg hk).1.trans (h.below.block k hk))⟩, (sf _ (by omega)).trans (k0.trans h.box), (sf _ (by omega)).trans (k1.trans h.res), ?_, (h.on.other hg (by decide) (by decide)).set_lab (by show lab' gb ≠ 0; omega) (by show lab' gb ≠ 1; omega) _, (h.oi.other hg (by decide) (by decide)).set_lab (by show lab' gb ≠ 0; omega) (by show lab' gb ≠ 2; omega) _, (h.oo.other hg (by decide) (by decide)).set_lab (by show lab' gb ≠ 0; omega) (by show lab' gb ≠ 3; omega) _, ho.set_lab (by show lab' gb ≠ 0; omega) (by show lab' gb ≠ 4; omega) _, fun k hk => hg.fresh k (by simpa using hk), fun k hk => (h.lowK (by decide) hg hk).2, m0, m1, mg, h.gt, by have := hg.size; simp; omega⟩
  have := heap_setCell_same w' gb 4 _ 34 vt' (kg.trans h.row)
  simpa using this
end
/-- Both lists of values copied, and the block for the graph. -/
theorem ci_start {w wi wo wx : World} {box : Obj} {name : ByteArray} {gb si so : Nat} {vi vo : Value} {li lo : List Vl} {labi labo : Nat → Nat}
    (hi : OL repVl 81 labi 1 wi si vi li) (ho : OL repVl 81 labo 1 wo so vo lo) (ki : ∀ k, si ≤ k → k < wi.heap.size → wx.heap[k]? = wi.heap[k]?) (ko : ∀ k, so ≤ k → k < wo.heap.size → wx.heap[k]? = wo.heap[k]?)
    (zi : wi.heap.size ≤ wx.heap.size) (zo : wo.heap.size ≤ wx.heap.size) (dis : wi.heap.size ≤ so ∨ wo.heap.size ≤ si) (gi : gb < si ∨ wi.heap.size ≤ gb) (go : gb < so ∨ wo.heap.size ≤ gb) (bi : w.heap.size + 2 ≤ si) (bo : w.heap.size + 2 ≤ so) (bg : w.heap.size + 2 ≤ gb) (gz : gb < wx.heap.size)
    (hb : Below w.heap.size w wx) (hbox : wx.heap[w.heap.size]? = some box) (hres : wx.heap[w.heap.size + 1]? = some (.cells #[.string ⟨#[]⟩, .slice none 0 0, .slice none 0 0, .slice none 0 0, .slice none 0 0] 34 (0, 0)))
    (hrow : wx.heap[gb]? = some (.cells #[.string name, .slice none 0 0, vi, vo, .slice none 0 0] 34 (0, 0))) : ∃ lab, CI w box name gb vi vo li lo wx (.slice none 0 0) [] (.slice none 0 0) [] lab := by
  have hil := hi.lt
  have hol := ho.lt
  have him := hi.mark
  have hom := ho.mark
  refine ⟨fun k => if k = w.heap.size ∨ k = w.heap.size + 1 ∨ k = gb then 5 else if vi.ownBlock = some k then 2 else if vo.ownBlock = some k then 3 else 0, hb, hbox, hres, hrow, ol_nil _ _ _ _ _ _, hi.relabel (by omega) (fun k hk => ?_) (fun k h1 h2 h3 => ?_) ki zi, ho.relabel (by omega) (fun k hk => ?_) (fun k h1 h2 h3 => ?_) ko zo, ol_nil _ _ _ _ _ _, fun k hk => ?_, fun k hk => ?_, ?_, ?_, ?_, bg, gz⟩
  · have := hil k hk
    rw [if_neg (by omega), if_pos hk]
  · rw [if_neg (by omega), if_neg (fun e => by have := him k e; omega), if_neg (fun e => by have := hol k e; omega)]
  · have := hol k hk
    rw [if_neg (by omega), if_neg (fun e => by have := hil k e; omega), if_pos hk]
  · rw [if_neg (by omega), if_neg (fun e => by have := hil k e; omega), if_neg (fun e => by have := hom k e; omega)]
  · rw [if_neg (by omega), if_neg (fun e => by have := hil k e; omega), if_neg (fun e => by have := hol k e; omega)]
  · rw [if_neg (by omega), if_neg (fun e => by have := hil k e; omega), if_neg (fun e => by have := hol k e; omega)]
  · rw [if_pos (.inl rfl)]
  · rw [if_pos (.inr (.inl rfl))]
  · rw [if_pos (.inr (.inr rfl))]
/-- Sizes that a graph to be copied has. -/
structure CopOk (g : Gr) : Prop where
  nodes : g.nodes.length ≤ 16777216
  ins : g.ins.length ≤ 16777216
  outs : g.outs.length ≤ 16777216
  inits : g.inits.length ≤ 16777216
  node : ∀ x ∈ g.nodes, x.ins.length * 16 ≤ 140737488351232 ∧ x.attrs.length ≤ 16777216 ∧ ∀ a ∈ x.attrs, a.t.dims.length * 8 ≤ 140737488351232 ∧ a.t.data.length * 8 ≤ 140737488351232 ∧ a.ints.length * 8 ≤ 140737488351232
  inp : ∀ v ∈ g.ins, v.dims.length * 8 ≤ 140737488351232
  out : ∀ v ∈ g.outs, v.dims.length * 8 ≤ 140737488351232
  init : ∀ t ∈ g.inits, t.t.dims.length * 8 ≤ 140737488351232 ∧ t.t.data.length * 8 ≤ 140737488351232

/-- Behind the copies of the values. -/
def CC (g : Gr) (w : World) (box : Obj) (v3 : Value) (wx : World) : Prop := ∃ gb Ai ci Ao co lab, v3 = .pointer (some ⟨gb, 0, none⟩) ∧ CI w box g.name gb (.slice Ai g.ins.length ci) (.slice Ao g.outs.length co) g.ins g.outs wx (.slice none 0 0) [] (.slice none 0 0) [] lab
set_option maxRecDepth 100000 in
set_option maxHeartbeats 6400000 in
theorem copyG_any (g : Gr) (w : World) (Z : Nat → Prop) (An Ai Ao At_ : Option Addr) (nn cn ni ci no co nt ct : Nat) (hn : Slc repNd w Z An nn g.nodes) (hi : Slc repVl w Z Ai ni g.ins) (ho : Slc repVl w Z Ao no g.outs) (ht : Slc repNm w Z At_ nt g.inits) (hZ : ∀ k, Z k → k < w.heap.size) (hok : CopOk g) :
    Calls Try.prog 12 #[.agg #[.string g.name, .slice An nn cn, .slice Ai ni ci, .slice Ao no co, .slice At_ nt ct]] w (CopIs g w) := by
  obtain ⟨i67, hi67, hz670, hz671, hz672⟩ := info_parts Try.info67
  have HI67 := Lib.hid (show _ ∧ _ ∧ _ ∧ _ from ⟨hi67, hz670, hz671, hz672⟩)
  obtain ⟨i69, hi69, hz690, hz691, hz692⟩ := info_parts Try.info69
  have HI69 := Lib.hid (show _ ∧ _ ∧ _ ∧ _ from ⟨hi69, hz690, hz691, hz692⟩)
  have hz2 : ((w.alloc (.cells #[.string g.name, .slice An nn cn, .slice Ai ni ci, .slice Ao no co, .slice At_ nt ct] 34)).alloc (.cells #[.string ⟨#[]⟩, .slice none 0 0, .slice none 0 0, .slice none 0 0, .slice none 0 0] 34)).heap.size = w.heap.size + 2 := by simp
  have hb2 : Below w.heap.size w ((w.alloc (.cells #[.string g.name, .slice An nn cn, .slice Ai ni ci, .slice Ao no co, .slice At_ nt ct] 34)).alloc (.cells #[.string ⟨#[]⟩, .slice none 0 0, .slice none 0 0, .slice none 0 0, .slice none 0 0] 34)) := ((Below.refl _ _).alloc (Nat.le_refl _) _).alloc (by simp) _
  have hg0 : ((w.alloc (.cells #[.string g.name, .slice An nn cn, .slice Ai ni ci, .slice Ao no co, .slice At_ nt ct] 34)).alloc (.cells #[.string ⟨#[]⟩, .slice none 0 0, .slice none 0 0, .slice none 0 0, .slice none 0 0] 34)).heap[w.heap.size]? = some (.cells #[.string g.name, .slice An nn cn, .slice Ai ni ci, .slice Ao no co, .slice At_ nt ct] 34 (0, 0)) := (Below.heap_alloc _ _ w.heap.size (by simp)).trans (heap_alloc_new w _)
  have hg1 : ((w.alloc (.cells #[.string g.name, .slice An nn cn, .slice Ai ni ci, .slice Ao no co, .slice At_ nt ct] 34)).alloc (.cells #[.string ⟨#[]⟩, .slice none 0 0, .slice none 0 0, .slice none 0 0, .slice none 0 0] 34)).heap[w.heap.size + 1]? = some (.cells #[.string ⟨#[]⟩, .slice none 0 0, .slice none 0 0, .slice none 0 0, .slice none 0 0] 34 (0, 0)) := heap_second w _ _ (w.heap.size + 1) rfl
  have HCi := Lib.hid (show ∀ wq, Below w.heap.size w wq → Calls Try.prog 28 #[.slice Ai ni ci] wq (LstIs repVl 81 g.ins wq) from fun wq hq => copyV_any g.ins wq Z Ai ni ci (hi.keep (fun k hk => hq.block k (hZ k hk)) (fun _ h => h)) (fun k hk => Nat.lt_of_lt_of_le (hZ k hk) hq.size) hok.ins hok.inp)
  have HCo := Lib.hid (show ∀ wq, Below w.heap.size w wq → Calls Try.prog 28 #[.slice Ao no co] wq (LstIs repVl 81 g.outs wq) from fun wq hq => copyV_any g.outs wq Z Ao no co (ho.keep (fun k hk => hq.block k (hZ k hk)) (fun _ h => h)) (fun k hk => Nat.lt_of_lt_of_le (hZ k hk) hq.size) hok.outs hok.out)
  have Hn := Lib.hid hn
  have Ht := Lib.hid ht
  have HZ := Lib.hid hZ
  have HOK := Lib.hid hok
  have Ln := Lib.hid hn.len
  have Lt := Lib.hid ht.len
  have sn : nn ≤ 16777216 := by rw [← hn.len]; exact hok.nodes
  have st : nt ≤ 16777216 := by rw [← ht.len]; exact hok.inits
  have HB2 := Lib.hid hb2
  have HG0 := Lib.hid hg0
  have HG1 := Lib.hid hg1
  have HZ2 := Lib.hid hz2
  have x0 : ((w.alloc (.cells #[.string g.name, .slice An nn cn, .slice Ai ni ci, .slice Ao no co, .slice At_ nt ct] 34)).alloc (.cells #[.string ⟨#[]⟩, .slice none 0 0, .slice none 0 0, .slice none 0 0, .slice none 0 0] 34)).cell? ⟨w.heap.size, 0, none⟩ = some (.string g.name) := cell_of_row _ _ 0 _ 34 (0, 0) hg0
  have x2 : ((w.alloc (.cells #[.string g.name, .slice An nn cn, .slice Ai ni ci, .slice Ao no co, .slice At_ nt ct] 34)).alloc (.cells #[.string ⟨#[]⟩, .slice none 0 0, .slice none 0 0, .slice none 0 0, .slice none 0 0] 34)).cell? ⟨w.heap.size, 2, none⟩ = some (.slice Ai ni ci) := cell_of_row _ _ 2 _ 34 (0, 0) hg0
  have x3 : ((w.alloc (.cells #[.string g.name, .slice An nn cn, .slice Ai ni ci, .slice Ao no co, .slice At_ nt ct] 34)).alloc (.cells #[.string ⟨#[]⟩, .slice none 0 0, .slice none 0 0, .slice none 0 0, .slice none 0 0] 34)).cell? ⟨w.heap.size, 3, none⟩ = some (.slice Ao no co) := cell_of_row _ _ 3 _ 34 (0, 0) hg0
  have HBd := Lib.hid hb2.drew
  clear hb2 hg0 hg1 hz2 hn hi ho ht hZ hok hi67 hz670 hz671 hz672 hi69 hz690 hz691 hz692
  go_enter Try.func12, Try.ntmps12
  go_upto_region 1 with (fail)
  generalize ((w.alloc (.cells #[.string g.name, .slice An nn cn, .slice Ai ni ci, .slice Ao no co, .slice At_ nt ct] 34)).alloc (.cells #[.string ⟨#[]⟩, .slice none 0 0, .slice none 0 0, .slice none 0 0, .slice none 0 0] 34)) = w2 at HB2 HG0 HG1 HZ2 x0 x2 x3 HBd ⊢
  have z2 : w2.heap.size ≤ w.heap.size + 2 := Nat.le_of_eq HZ2.out
  have z2' : w.heap.size + 2 ≤ w2.heap.size := Nat.le_of_eq HZ2.out.symm
  have hbe : Below w2.heap.size w2 ((w2.alloc (.cells #[.string ⟨#[]⟩, .slice none 0 0, .slice none 0 0, .slice none 0 0, .slice none 0 0] 34)).drew) := ((Below.refl _ _).alloc (Nat.le_refl _) _).drew
  have HBe := Lib.hid (HB2.out.trans (hbe.mono HB2.out.size))
  have y0 := (hbe.cell (p := ⟨w.heap.size, 0, none⟩) (by dsimp only; omega)).trans x0
  have y2 := (hbe.cell (p := ⟨w.heap.size, 2, none⟩) (by dsimp only; omega)).trans x2
  have y3 := (hbe.cell (p := ⟨w.heap.size, 3, none⟩) (by dsimp only; omega)).trans x3
  have HGe := Lib.hid (show ((w2.alloc (.cells #[.string ⟨#[]⟩, .slice none 0 0, .slice none 0 0, .slice none 0 0, .slice none 0 0] 34)).drew).heap[w2.heap.size]? = _ from heap_alloc_new w2 (.cells #[.string ⟨#[]⟩, .slice none 0 0, .slice none 0 0, .slice none 0 0, .slice none 0 0] 34))
  have HE := Lib.hid hbe
  clear hbe
  go_cut [3] from 7 to 16 (fun v3 wx => CC g w (.cells #[.string g.name, .slice An nn cn, .slice Ai ni ci, .slice Ao no co, .slice At_ nt ct] 34 (0, 0)) v3 wx)
  case first =>
    go_region_held3 (fun W => W.cell? ⟨w.heap.size, 0, none⟩ = some (.string g.name) ∧ W.cell? ⟨w.heap.size, 2, none⟩ = some (.slice Ai ni ci) ∧ W.cell? ⟨w.heap.size, 3, none⟩ = some (.slice Ao no co)) (first | (with_reducible exact ⟨x0, x2, x3⟩) | (with_reducible exact ⟨j0, j2, j3⟩) | (with_reducible exact ⟨k0, k2, k3⟩) | (with_reducible exact ⟨y0, y2, y3⟩) | (refine ⟨?_, ?_, ?_⟩ <;> (first | (with_reducible exact (World.cell?_alloc_lt _ _ _ (by dsimp only; omega)).trans j0) | (with_reducible exact (World.cell?_alloc_lt _ _ _ (by dsimp only; omega)).trans j2) | (with_reducible exact (World.cell?_alloc_lt _ _ _ (by dsimp only; omega)).trans j3) | (with_reducible exact (World.cell?_alloc_lt _ _ _ (by dsimp only; omega)).trans k0) | (with_reducible exact (World.cell?_alloc_lt _ _ _ (by dsimp only; omega)).trans k2) | (with_reducible exact (World.cell?_alloc_lt _ _ _ (by dsimp only; omega)).trans k3) | (rw [World.cell?_setCell_far _ _ _ _ (by dsimp only; omega), World.cell?_setCell_far _ _ _ _ (by dsimp only; omega), World.cell?_setCell_far _ _ _ _ (by dsimp only; omega), World.cell?_setCell_far _ _ _ _ (by dsimp only; omega), World.cell?_setCell_far _ _ _ _ (by dsimp only; omega)]; first | (with_reducible exact j0) | (with_reducible exact j2) | (with_reducible exact j3) | (with_reducible exact k0) | (with_reducible exact k2) | (with_reducible exact k3)))) | go_keep)
      (first
        | (go_at_call 28; (with_reducible refine (HCi.out _ (HBWo.out.alloc HBWo.out.size _)).mono ?_); rintro e wi ⟨Ai2, ci2, labi, rfl, hli, hfi, hlowi, hbi⟩; have k0 := (hbi.cell (p := ⟨w.heap.size, 0, none⟩) (by simp; omega)).trans ((World.cell?_alloc_lt wo _ _ (by dsimp only; omega)).trans j0); have k2 := (hbi.cell (p := ⟨w.heap.size, 2, none⟩) (by simp; omega)).trans ((World.cell?_alloc_lt wo _ _ (by dsimp only; omega)).trans j2); have k3 := (hbi.cell (p := ⟨w.heap.size, 3, none⟩) (by simp; omega)).trans ((World.cell?_alloc_lt wo _ _ (by dsimp only; omega)).trans j3); have zi : wo.heap.size ≤ wi.heap.size := (by have h := hbi.size; simp at h; omega); have zip : wo.heap.size + 1 ≤ wi.heap.size := (by have h := hbi.size; simp at h; omega); have hgn := (hbi.block (wo.heap.size) (by simp)).trans (heap_alloc_new wo (.cells #[.string ⟨#[]⟩, .slice none 0 0, .slice none 0 0, .slice none 0 0, .slice none 0 0] 34)); have v0 := cell_of_row _ _ 0 _ 34 (0, 0) hgn; have v1 := cell_of_row _ _ 1 _ 34 (0, 0) hgn; have v2 := cell_of_row _ _ 2 _ 34 (0, 0) hgn; have v3 := cell_of_row _ _ 3 _ 34 (0, 0) hgn; have v4 := cell_of_row _ _ 4 _ 34 (0, 0) hgn; simp only [List.getElem?_toArray, List.getElem?_cons_zero, List.getElem?_cons_succ] at v0 v1 v2 v3 v4; have hfz : ∀ i, wi.frozen? ⟨wo.heap.size, i, none⟩ = false := (fun i => by simp [World.frozen?, hgn]); have f0 := hfz 0; have f1 := hfz 1; have f2 := hfz 2; have f3 := hfz 3; have f4 := hfz 4; have HGN := Lib.hid hgn; clear hgn hfz; have HBWi := Lib.hid ((HBWo.out.alloc HBWo.out.size _).trans (hbi.mono (HBWo.out.alloc HBWo.out.size _).size)); have HLi := Lib.hid hli; have HBi := Lib.hid hbi; clear hli hfi hlowi hbi)
        | (go_at_call 28; (with_reducible refine (HCo.out _ (HBWi.out.alloc HBWi.out.size _)).mono ?_); rintro e wo ⟨Ao2, co2, labo, rfl, hlo, hfo, hlowo, hbo⟩; have k0 := (hbo.cell (p := ⟨w.heap.size, 0, none⟩) (by simp; omega)).trans ((World.cell?_alloc_lt wi _ _ (by dsimp only; omega)).trans j0); have k2 := (hbo.cell (p := ⟨w.heap.size, 2, none⟩) (by simp; omega)).trans ((World.cell?_alloc_lt wi _ _ (by dsimp only; omega)).trans j2); have k3 := (hbo.cell (p := ⟨w.heap.size, 3, none⟩) (by simp; omega)).trans ((World.cell?_alloc_lt wi _ _ (by dsimp only; omega)).trans j3); have zo : wi.heap.size ≤ wo.heap.size := (by have h := hbo.size; simp at h; omega); have zop : wi.heap.size + 1 ≤ wo.heap.size := (by have h := hbo.size; simp at h; omega); have hgn := (hbo.block (wi.heap.size) (by simp)).trans (heap_alloc_new wi (.cells #[.string ⟨#[]⟩, .slice none 0 0, .slice none 0 0, .slice none 0 0, .slice none 0 0] 34)); have v0 := cell_of_row _ _ 0 _ 34 (0, 0) hgn; have v1 := cell_of_row _ _ 1 _ 34 (0, 0) hgn; have v2 := cell_of_row _ _ 2 _ 34 (0, 0) hgn; have v3 := cell_of_row _ _ 3 _ 34 (0, 0) hgn; have v4 := cell_of_row _ _ 4 _ 34 (0, 0) hgn; simp only [List.getElem?_toArray, List.getElem?_cons_zero, List.getElem?_cons_succ] at v0 v1 v2 v3 v4; have hfz : ∀ i, wo.frozen? ⟨wi.heap.size, i, none⟩ = false := (fun i => by simp [World.frozen?, hgn]); have f0 := hfz 0; have f1 := hfz 1; have f2 := hfz 2; have f3 := hfz 3; have f4 := hfz 4; have HGN := Lib.hid hgn; clear hgn hfz; have HBWo := Lib.hid ((HBWi.out.alloc HBWi.out.size _).trans (hbo.mono (HBWi.out.alloc HBWi.out.size _).size)); have HLo := Lib.hid hlo; have HBo := Lib.hid hbo; clear hlo hfo hlowo hbo)
        | (go_at_call 28; (with_reducible refine (HCi.out _ HBWo.out).mono ?_); rintro e wi ⟨Ai2, ci2, labi, rfl, hli, hfi, hlowi, hbi⟩; have k0 := (hbi.cell (p := ⟨w.heap.size, 0, none⟩) (by dsimp only; omega)).trans j0; have k2 := (hbi.cell (p := ⟨w.heap.size, 2, none⟩) (by dsimp only; omega)).trans j2; have k3 := (hbi.cell (p := ⟨w.heap.size, 3, none⟩) (by dsimp only; omega)).trans j3; have zi : wo.heap.size ≤ wi.heap.size := hbi.size; have hgn := (hbi.block (w2.heap.size) (by omega)).trans HGN.out; have v0 := cell_of_row _ _ 0 _ 34 (0, 0) hgn; have v1 := cell_of_row _ _ 1 _ 34 (0, 0) hgn; have v2 := cell_of_row _ _ 2 _ 34 (0, 0) hgn; have v3 := cell_of_row _ _ 3 _ 34 (0, 0) hgn; have v4 := cell_of_row _ _ 4 _ 34 (0, 0) hgn; simp only [List.getElem?_toArray, List.getElem?_cons_zero, List.getElem?_cons_succ] at v0 v1 v2 v3 v4; have hfz : ∀ i, wi.frozen? ⟨w2.heap.size, i, none⟩ = false := (fun i => by simp [World.frozen?, hgn]); have f0 := hfz 0; have f1 := hfz 1; have f2 := hfz 2; have f3 := hfz 3; have f4 := hfz 4; have HGN := Lib.hid hgn; clear hgn hfz; have HBWi := Lib.hid (HBWo.out.trans (hbi.mono HBWo.out.size)); have HLi := Lib.hid hli; have HBi := Lib.hid hbi; clear hli hfi hlowi hbi)
        | (go_at_call 28; (with_reducible refine (HCo.out _ HBWi.out).mono ?_); rintro e wo ⟨Ao2, co2, labo, rfl, hlo, hfo, hlowo, hbo⟩; have k0 := (hbo.cell (p := ⟨w.heap.size, 0, none⟩) (by dsimp only; omega)).trans j0; have k2 := (hbo.cell (p := ⟨w.heap.size, 2, none⟩) (by dsimp only; omega)).trans j2; have k3 := (hbo.cell (p := ⟨w.heap.size, 3, none⟩) (by dsimp only; omega)).trans j3; have zo : wi.heap.size ≤ wo.heap.size := hbo.size; have hgn := (hbo.block (w2.heap.size) (by omega)).trans HGN.out; have v0 := cell_of_row _ _ 0 _ 34 (0, 0) hgn; have v1 := cell_of_row _ _ 1 _ 34 (0, 0) hgn; have v2 := cell_of_row _ _ 2 _ 34 (0, 0) hgn; have v3 := cell_of_row _ _ 3 _ 34 (0, 0) hgn; have v4 := cell_of_row _ _ 4 _ 34 (0, 0) hgn; simp only [List.getElem?_toArray, List.getElem?_cons_zero, List.getElem?_cons_succ] at v0 v1 v2 v3 v4; have hfz : ∀ i, wo.frozen? ⟨w2.heap.size, i, none⟩ = false := (fun i => by simp [World.frozen?, hgn]); have f0 := hfz 0; have f1 := hfz 1; have f2 := hfz 2; have f3 := hfz 3; have f4 := hfz 4; have HGN := Lib.hid hgn; clear hgn hfz; have HBWo := Lib.hid (HBWi.out.trans (hbo.mono HBWi.out.size)); have HLo := Lib.hid hlo; have HBo := Lib.hid hbo; clear hlo hfo hlowo hbo)
        | (go_at_call 28; (with_reducible refine (HCi.out _ HBWo.out).mono ?_); rintro e wi ⟨Ai2, ci2, labi, rfl, hli, hfi, hlowi, hbi⟩; have k0 := (hbi.cell (p := ⟨w.heap.size, 0, none⟩) (by dsimp only; omega)).trans j0; have k2 := (hbi.cell (p := ⟨w.heap.size, 2, none⟩) (by dsimp only; omega)).trans j2; have k3 := (hbi.cell (p := ⟨w.heap.size, 3, none⟩) (by dsimp only; omega)).trans j3; have zi : wo.heap.size ≤ wi.heap.size := hbi.size; have HBWi := Lib.hid (HBWo.out.trans (hbi.mono HBWo.out.size)); have HLi := Lib.hid hli; have HBi := Lib.hid hbi; clear hli hfi hlowi hbi)
        | (go_at_call 28; (with_reducible refine (HCo.out _ HBWi.out).mono ?_); rintro e wo ⟨Ao2, co2, labo, rfl, hlo, hfo, hlowo, hbo⟩; have k0 := (hbo.cell (p := ⟨w.heap.size, 0, none⟩) (by dsimp only; omega)).trans j0; have k2 := (hbo.cell (p := ⟨w.heap.size, 2, none⟩) (by dsimp only; omega)).trans j2; have k3 := (hbo.cell (p := ⟨w.heap.size, 3, none⟩) (by dsimp only; omega)).trans j3; have zo : wi.heap.size ≤ wo.heap.size := hbo.size; have HBWo := Lib.hid (HBWi.out.trans (hbo.mono HBWi.out.size)); have HLo := Lib.hid hlo; have HBo := Lib.hid hbo; clear hlo hfo hlowo hbo)
        | (go_at_call 28; (with_reducible refine (HCi.out _ HBe.out).mono ?_); rintro e wi ⟨Ai2, ci2, labi, rfl, hli, hfi, hlowi, hbi⟩; have j0 := (hbi.cell (p := ⟨w.heap.size, 0, none⟩) (by simp; omega)).trans y0; have j2 := (hbi.cell (p := ⟨w.heap.size, 2, none⟩) (by simp; omega)).trans y2; have j3 := (hbi.cell (p := ⟨w.heap.size, 3, none⟩) (by simp; omega)).trans y3; have zi : w2.heap.size ≤ wi.heap.size := (by have h := hbi.size; simp at h; omega); have zip : w2.heap.size + 1 ≤ wi.heap.size := (by have h := hbi.size; simp at h; omega); have hgn := (hbi.block (w2.heap.size) (by simp)).trans HGe.out; have v0 := cell_of_row _ _ 0 _ 34 (0, 0) hgn; have v1 := cell_of_row _ _ 1 _ 34 (0, 0) hgn; have v2 := cell_of_row _ _ 2 _ 34 (0, 0) hgn; have v3 := cell_of_row _ _ 3 _ 34 (0, 0) hgn; have v4 := cell_of_row _ _ 4 _ 34 (0, 0) hgn; simp only [List.getElem?_toArray, List.getElem?_cons_zero, List.getElem?_cons_succ] at v0 v1 v2 v3 v4; have hfz : ∀ i, wi.frozen? ⟨w2.heap.size, i, none⟩ = false := (fun i => by simp [World.frozen?, hgn]); have f0 := hfz 0; have f1 := hfz 1; have f2 := hfz 2; have f3 := hfz 3; have f4 := hfz 4; have HGN := Lib.hid hgn; clear hgn hfz; have HBWi := Lib.hid (HBe.out.trans (hbi.mono HBe.out.size)); have HLi := Lib.hid hli; have HBi := Lib.hid hbi; clear hli hfi hlowi hbi)
        | (go_at_call 28; (with_reducible refine (HCo.out _ HBe.out).mono ?_); rintro e wo ⟨Ao2, co2, labo, rfl, hlo, hfo, hlowo, hbo⟩; have j0 := (hbo.cell (p := ⟨w.heap.size, 0, none⟩) (by simp; omega)).trans y0; have j2 := (hbo.cell (p := ⟨w.heap.size, 2, none⟩) (by simp; omega)).trans y2; have j3 := (hbo.cell (p := ⟨w.heap.size, 3, none⟩) (by simp; omega)).trans y3; have zo : w2.heap.size ≤ wo.heap.size := (by have h := hbo.size; simp at h; omega); have zop : w2.heap.size + 1 ≤ wo.heap.size := (by have h := hbo.size; simp at h; omega); have hgn := (hbo.block (w2.heap.size) (by simp)).trans HGe.out; have v0 := cell_of_row _ _ 0 _ 34 (0, 0) hgn; have v1 := cell_of_row _ _ 1 _ 34 (0, 0) hgn; have v2 := cell_of_row _ _ 2 _ 34 (0, 0) hgn; have v3 := cell_of_row _ _ 3 _ 34 (0, 0) hgn; have v4 := cell_of_row _ _ 4 _ 34 (0, 0) hgn; simp only [List.getElem?_toArray, List.getElem?_cons_zero, List.getElem?_cons_succ] at v0 v1 v2 v3 v4; have hfz : ∀ i, wo.frozen? ⟨w2.heap.size, i, none⟩ = false := (fun i => by simp [World.frozen?, hgn]); have f0 := hfz 0; have f1 := hfz 1; have f2 := hfz 2; have f3 := hfz 3; have f4 := hfz 4; have HGN := Lib.hid hgn; clear hgn hfz; have HBWo := Lib.hid (HBe.out.trans (hbo.mono HBe.out.size)); have HLo := Lib.hid hlo; have HBo := Lib.hid hbo; clear hlo hfo hlowo hbo)
        | (go_at_call 28; (with_reducible refine (HCi.out _ HBd.out).mono ?_); rintro e wi ⟨Ai2, ci2, labi, rfl, hli, hfi, hlowi, hbi⟩; have j0 := (hbi.cell (p := ⟨w.heap.size, 0, none⟩) (by show _ < w2.heap.size; dsimp only; omega)).trans x0; have j2 := (hbi.cell (p := ⟨w.heap.size, 2, none⟩) (by show _ < w2.heap.size; dsimp only; omega)).trans x2; have j3 := (hbi.cell (p := ⟨w.heap.size, 3, none⟩) (by show _ < w2.heap.size; dsimp only; omega)).trans x3; have zi : w2.heap.size ≤ wi.heap.size := hbi.size; have HBWi := Lib.hid (HBd.out.trans (hbi.mono HBd.out.size)); have HLi := Lib.hid hli; have HBi := Lib.hid hbi; clear hli hfi hlowi hbi)
        | (go_at_call 28; (with_reducible refine (HCo.out _ HBd.out).mono ?_); rintro e wo ⟨Ao2, co2, labo, rfl, hlo, hfo, hlowo, hbo⟩; have j0 := (hbo.cell (p := ⟨w.heap.size, 0, none⟩) (by show _ < w2.heap.size; dsimp only; omega)).trans x0; have j2 := (hbo.cell (p := ⟨w.heap.size, 2, none⟩) (by show _ < w2.heap.size; dsimp only; omega)).trans x2; have j3 := (hbo.cell (p := ⟨w.heap.size, 3, none⟩) (by show _ < w2.heap.size; dsimp only; omega)).trans x3; have zo : w2.heap.size ≤ wo.heap.size := hbo.size; have HBWo := Lib.hid (HBd.out.trans (hbo.mono HBd.out.size)); have HLo := Lib.hid hlo; have HBo := Lib.hid hbo; clear hlo hfo hlowo hbo))
    · have HC := Lib.hid (show CC g w (.cells #[.string g.name, .slice An nn cn, .slice Ai ni ci, .slice Ao no co, .slice At_ nt ct] 34 (0, 0)) (.pointer (some ⟨wo.heap.size, 0, none⟩)) (wo.alloc (.cells #[.string g.name, .slice none 0 0, .slice Ai2 g.ins.length ci2, .slice Ao2 g.outs.length co2, .slice none 0 0] 34)) from by
        have hao : Below wo.heap.size wo (wo.alloc (.cells #[.string g.name, .slice none 0 0, .slice Ai2 g.ins.length ci2, .slice Ao2 g.outs.length co2, .slice none 0 0] 34)) := (Below.refl _ _).alloc (Nat.le_refl _) _
        have hia := HBo.out.trans (hao.mono zo)
        have hb2x : Below w2.heap.size w2 (wo.alloc (.cells #[.string g.name, .slice none 0 0, .slice Ai2 g.ins.length ci2, .slice Ao2 g.outs.length co2, .slice none 0 0] 34)) := ((Below.refl _ _).drew.trans HBi.out).trans (hia.mono zi)
        have zx : (wo.alloc (.cells #[.string g.name, .slice none 0 0, .slice Ai2 g.ins.length ci2, .slice Ao2 g.outs.length co2, .slice none 0 0] 34)).heap.size = wo.heap.size + 1 := by simp
        obtain ⟨lab, hlab⟩ := ci_start (w := w) (name := g.name) (gb := wo.heap.size) HLi.out HLo.out (fun k _ hk => hia.block k hk) (fun k _ hk => hao.block k hk) hia.size hao.size (.inl (Nat.le_refl _)) (.inr zo) (.inr (Nat.le_refl _)) z2' (by omega) (by omega) (by omega) (HB2.out.trans (hb2x.mono HB2.out.size)) ((hb2x.block _ (by omega)).trans HG0.out) ((hb2x.block _ (by omega)).trans HG1.out) (heap_alloc_new wo (.cells #[.string g.name, .slice none 0 0, .slice Ai2 g.ins.length ci2, .slice Ao2 g.outs.length co2, .slice none 0 0] 34))
        exact ⟨_, _, _, _, _, lab, rfl, hlab⟩)
      go_wp2_with fail
      go_meet
      exact HC.out
    · have HC := Lib.hid (show CC g w (.cells #[.string g.name, .slice An nn cn, .slice Ai ni ci, .slice Ao no co, .slice At_ nt ct] 34 (0, 0)) (.pointer (some ⟨wi.heap.size, 0, none⟩)) (setFrom wo (wi.heap.size) 0 [.string g.name, .slice none 0 0, .slice Ai2 g.ins.length ci2, .slice Ao2 g.outs.length co2, .slice none 0 0]) from by
        have hai : Below wi.heap.size wi (wi.alloc (.cells #[.string ⟨#[]⟩, .slice none 0 0, .slice none 0 0, .slice none 0 0, .slice none 0 0] 34)) := (Below.refl _ _).alloc (Nat.le_refl _) _
        have hio : Below wi.heap.size wi wo := hai.trans (HBo.out.mono hai.size)
        have h2o : Below w2.heap.size w2 wo := ((Below.refl _ _).drew.trans HBi.out).trans (hio.mono zi)
        have zs : (wi.alloc (.cells #[.string ⟨#[]⟩, .slice none 0 0, .slice none 0 0, .slice none 0 0, .slice none 0 0] 34)).heap.size = wi.heap.size + 1 := by simp
        obtain ⟨kf, zf, _⟩ := setFrom_keep (wi.heap.size) [.string g.name, .slice none 0 0, .slice Ai2 g.ins.length ci2, .slice Ao2 g.outs.length co2, .slice none 0 0] 0 wo
        have hb2x : Below w2.heap.size w2 (setFrom wo (wi.heap.size) 0 [.string g.name, .slice none 0 0, .slice Ai2 g.ins.length ci2, .slice Ao2 g.outs.length co2, .slice none 0 0]) := h2o.trans (setFrom_below (by omega) [.string g.name, .slice none 0 0, .slice Ai2 g.ins.length ci2, .slice Ao2 g.outs.length co2, .slice none 0 0] 0 wo)
        obtain ⟨lab, hlab⟩ := ci_start (w := w) (name := g.name) (gb := wi.heap.size) HLi.out HLo.out (fun k _ hk => (kf k (by omega)).trans (hio.block k hk)) (fun k h1 hk => kf k (by rw [zs] at h1; omega)) (by rw [zf]; omega) (by rw [zf]; omega) (.inl (by rw [zs]; omega)) (.inr (Nat.le_refl _)) (.inl (by rw [zs]; omega)) (z2') (by rw [zs]; omega) (by omega) (by rw [zf]; omega) (HB2.out.trans (hb2x.mono HB2.out.size)) ((hb2x.block _ (by omega)).trans HG0.out) ((hb2x.block _ (by omega)).trans HG1.out) (setFrom_heap 34 (wi.heap.size) [.string g.name, .slice none 0 0, .slice Ai2 g.ins.length ci2, .slice Ao2 g.outs.length co2, .slice none 0 0] 0 wo _ HGN.out)
        exact ⟨_, _, _, _, _, lab, rfl, hlab⟩)
      go_wp2_with fail
      go_meet
      exact HC.out
    · have HC := Lib.hid (show CC g w (.cells #[.string g.name, .slice An nn cn, .slice Ai ni ci, .slice Ao no co, .slice At_ nt ct] 34 (0, 0)) (.pointer (some ⟨w2.heap.size, 0, none⟩)) (setFrom wo (w2.heap.size) 0 [.string g.name, .slice none 0 0, .slice Ai2 g.ins.length ci2, .slice Ao2 g.outs.length co2, .slice none 0 0]) from by
        have hio : Below wi.heap.size wi wo := HBo.out
        have h2e : Below w2.heap.size w2 ((w2.alloc (.cells #[.string ⟨#[]⟩, .slice none 0 0, .slice none 0 0, .slice none 0 0, .slice none 0 0] 34)).drew) := ((Below.refl _ _).alloc (Nat.le_refl _) _).drew
        have zs : ((w2.alloc (.cells #[.string ⟨#[]⟩, .slice none 0 0, .slice none 0 0, .slice none 0 0, .slice none 0 0] 34)).drew).heap.size = w2.heap.size + 1 := by simp
        have h2o : Below w2.heap.size w2 wo := (h2e.trans (HBi.out.mono h2e.size)).trans (hio.mono zi)
        obtain ⟨kf, zf, _⟩ := setFrom_keep (w2.heap.size) [.string g.name, .slice none 0 0, .slice Ai2 g.ins.length ci2, .slice Ao2 g.outs.length co2, .slice none 0 0] 0 wo
        have hb2x : Below w2.heap.size w2 (setFrom wo (w2.heap.size) 0 [.string g.name, .slice none 0 0, .slice Ai2 g.ins.length ci2, .slice Ao2 g.outs.length co2, .slice none 0 0]) := h2o.trans (setFrom_below (by omega) [.string g.name, .slice none 0 0, .slice Ai2 g.ins.length ci2, .slice Ao2 g.outs.length co2, .slice none 0 0] 0 wo)
        obtain ⟨lab, hlab⟩ := ci_start (w := w) (name := g.name) (gb := w2.heap.size) HLi.out HLo.out (fun k h1 hk => (kf k (by rw [zs] at h1; omega)).trans (hio.block k hk)) (fun k h1 hk => kf k (by omega)) (by rw [zf]; omega) (by rw [zf]; omega) (.inl (Nat.le_refl _)) (.inl (by rw [zs]; omega)) (.inl (by omega)) (by rw [zs]; omega) (by omega) (by omega) (by rw [zf]; omega) (HB2.out.trans (hb2x.mono HB2.out.size)) ((hb2x.block _ (by omega)).trans HG0.out) ((hb2x.block _ (by omega)).trans HG1.out) (setFrom_heap 34 (w2.heap.size) [.string g.name, .slice none 0 0, .slice Ai2 g.ins.length ci2, .slice Ao2 g.outs.length co2, .slice none 0 0] 0 wo _ HGN.out)
        exact ⟨_, _, _, _, _, lab, rfl, hlab⟩)
      go_wp2_with fail
      go_meet
      exact HC.out
  case rest =>
    obtain ⟨gb, Ai2, ci2, Ao2, co2, lab, rfl, hci⟩ := hcut
    have HC0 := Lib.hid hci
    have zg := hci.gt
    clear hci x0 x2 x3 y0 y2 y3 HCi HCo HBd HBe HGe HE HB2 HG0 HG1 z2 z2' HZ2
    go_wp2_with fail
    go_loopw [4, 5] (fun i u5 wr => ∃ k : Nat, k ≤ nn ∧ i = .int .i64 k ∧ ∃ vn lab, CI w (.cells #[.string g.name, .slice An nn cn, .slice Ai ni ci, .slice Ao no co, .slice At_ nt ct] 34 (0, 0)) g.name gb (.slice Ai2 g.ins.length ci2) (.slice Ao2 g.outs.length co2) g.ins g.outs wr vn (g.nodes.take k) (.slice none 0 0) [] lab) (fun i _ _ => nn - (intOf i).toNat)
    case atStart => exact ⟨0, Nat.zero_le _, rfl, _, _, HC0.out⟩
    case round =>
      obtain ⟨k, hk, rfl, vn, lab, hci⟩ := hrel
      have HV := Lib.hid hci
      have Hbw := Lib.hid hci.below
      have zb := hci.below.size
      have zs := hci.size
      obtain ⟨A3, c3, h3⟩ := hci.on.form
      have hlk : (g.nodes.take k).length = k := by rw [List.length_take]; have := Ln.out; omega
      rw [hlk] at h3
      subst h3
      have HLK := Lib.hid hlk
      have b1 : wr.cell? ⟨w.heap.size, 1, none⟩ = some (.slice An nn cn) := cell_of_row _ _ 1 _ 34 (0, 0) hci.box
      clear hlk hci
      by_cases hlt : k < nn
      · obtain ⟨bd, od, x, cs, hA, hbZ, hs, hR, hc⟩ := Hn.out.get hlt
        obtain ⟨d, e, rfl, h3, h4⟩ := hR
        obtain ⟨Ad, nd, cd, rfl, h3⟩ := h3
        obtain ⟨Ae, ne, ce, rfl, h4⟩ := h4
        have y0 : wr.cell? ⟨bd, od + k * 5, none⟩ = some (.string x.op) := (Hbw.out.cell (p := ⟨bd, od + k * 5, none⟩) (by exact HZ.out _ hbZ)).trans (hc 0 (by decide))
        have y1 : wr.cell? ⟨bd, od + k * 5 + 1, none⟩ = some (.string x.name) := (Hbw.out.cell (p := ⟨bd, od + k * 5 + 1, none⟩) (by exact HZ.out _ hbZ)).trans (hc 1 (by decide))
        have y2 : wr.cell? ⟨bd, od + k * 5 + 2, none⟩ = some (.slice Ad nd cd) := (Hbw.out.cell (p := ⟨bd, od + k * 5 + 2, none⟩) (by exact HZ.out _ hbZ)).trans (hc 2 (by decide))
        have y3 : wr.cell? ⟨bd, od + k * 5 + 3, none⟩ = some (.string x.out) := (Hbw.out.cell (p := ⟨bd, od + k * 5 + 3, none⟩) (by exact HZ.out _ hbZ)).trans (hc 3 (by decide))
        have y4 : wr.cell? ⟨bd, od + k * 5 + 4, none⟩ = some (.slice Ae ne ce) := (Hbw.out.cell (p := ⟨bd, od + k * 5 + 4, none⟩) (by exact HZ.out _ hbZ)).trans (hc 4 (by decide))
        have Ht2 := Lib.hid (show g.nodes.take k ++ [x] = g.nodes.take (k + 1) by rw [List.take_add_one, hs]; rfl)
        obtain ⟨o1, o2, o3⟩ := HOK.out.node x (List.mem_of_getElem? hs)
        subst hA
        have HT := Lib.hid (copyN_any x wr Z Ad Ae nd cd ne ce (h3.keep (fun k hk => Hbw.out.block k (HZ.out k hk)) (fun _ h => h)) (h4.keep (fun k hk => Hbw.out.block k (HZ.out k hk)) (fun _ h => h)) (fun k hk => Nat.lt_of_lt_of_le (HZ.out k hk) Hbw.out.size) (by rw [← h3.len]; exact o1) (by rw [← h4.len]; exact o2) o3)
        clear hs hc h3 h4 o1 o2 o3
        go_wp2_with fail
        refine HT.out.mono ?_
        rintro e wa ⟨T1, t1, T2, t2, rfl, hs1, hs2, hba⟩
        have hal : Below wa.heap.size wa (wa.alloc (.cells #[.string x.op, .string x.name, .slice T1 x.ins.length t1, .string x.out, .slice T2 x.attrs.length t2] 67)) := (Below.refl _ _).alloc (Nat.le_refl _) _
        have hv := (HV.out.later hba).later hal
        have HR := Lib.hid (rep_made (ρ := repNd) (w := wr) (lab := lab) (lo := w.heap.size) (w' := (wa.alloc (.cells #[.string x.op, .string x.name, .slice T1 x.ins.length t1, .string x.out, .slice T2 x.attrs.length t2] 67))) (cs := [.string x.op, .string x.name, .slice T1 x.ins.length t1, .string x.out, .slice T2 x.attrs.length t2]) (x := x) ⟨_, _, rfl, ⟨_, _, _, rfl, hs1.keep (fun k hk => hal.block k hk.2) (fun k hk => ⟨hk.1, Nat.lt_of_lt_of_le hk.2 hal.size⟩)⟩, ⟨_, _, _, rfl, hs2.keep (fun k hk => hal.block k hk.2) (fun k hk => ⟨hk.1, Nat.lt_of_lt_of_le hk.2 hal.size⟩)⟩⟩ HV.out.fr zb)
        have hrw := hv.row
        have hnw := heap_alloc_new wa (.cells #[.string x.op, .string x.name, .slice T1 x.ins.length t1, .string x.out, .slice T2 x.attrs.length t2] 67)
        have g1 : (wa.alloc (.cells #[.string x.op, .string x.name, .slice T1 x.ins.length t1, .string x.out, .slice T2 x.attrs.length t2] 67)).cell? ⟨gb, 1, none⟩ = some (.slice A3 k c3) := cell_of_row _ _ 1 _ 34 (0, 0) hrw
        have nd0 := cell_of_row _ _ 0 _ 67 (0, 0) hnw
        have nd1 := cell_of_row _ _ 1 _ 67 (0, 0) hnw
        have nd2 := cell_of_row _ _ 2 _ 67 (0, 0) hnw
        have nd3 := cell_of_row _ _ 3 _ 67 (0, 0) hnw
        have nd4 := cell_of_row _ _ 4 _ 67 (0, 0) hnw
        simp only [List.getElem?_toArray, List.getElem?_cons_zero, List.getElem?_cons_succ] at nd0 nd1 nd2 nd3 nd4
        have zW : w.heap.size ≤ (wa.alloc (.cells #[.string x.op, .string x.name, .slice T1 x.ins.length t1, .string x.out, .slice T2 x.attrs.length t2] 67)).heap.size := hv.below.size
        have HVW := Lib.hid hv
        clear hal hv hrw hnw hs1 hs2 hba y0 y1 y2 y3 y4 b1
        go_wp2_with (at_builtin; refine wpList_append_o (wa.alloc (.cells #[.string x.op, .string x.name, .slice T1 x.ins.length t1, .string x.out, .slice T2 x.attrs.length t2] 67)) repNd x [.string x.op, .string x.name, .slice T1 x.ins.length t1, .string x.out, .slice T2 x.attrs.length t2] rfl (.tmp 30) (.tmp 32) 30 rfl 67 i67 _ 96 Try.underlying30 HI67.out.1 HI67.out.2.1 HI67.out.2.2.1 HI67.out.2.2.2 rfl (by decide) (by decide) lab 1 (by decide) w.heap.size (.slice A3 k c3) (g.nodes.take k) rfl HVW.out.on HVW.out.fr HR.out (wa.heap.size + 1) (by simp) rfl (by rw [HLK.out]; omega) zW ?_; intro v' wz lab' hoz hgz; obtain ⟨Aw, mw, cw, hvw⟩ : ∃ A m c, v' = .slice A m c := (by obtain ⟨A, c, e⟩ := OL.form hoz; exact ⟨A, _, c, e⟩); subst hvw; have gz := (HVW.out.keep5 (by decide) hgz (.inr (.inr rfl))).1.trans HVW.out.row; have q4 : wz.cell? ⟨gb, 1, none⟩ = some (.slice A3 k c3) := cell_of_row _ _ 1 _ 34 (0, 0) gz; have qf : wz.frozen? ⟨gb, 1, none⟩ = false := (by simp [World.frozen?, gz]); have HVz := Lib.hid (HVW.out.moreN hgz (Ht2.out ▸ hoz)); clear hoz hgz gz)
        go_roundw
        case rel => exact ⟨k + 1, by omega, by go_num, _, _, HVz.out⟩
        case measure => simp [intOf]; omega
      · obtain rfl : k = nn := by omega
        have hall : g.nodes.take k = g.nodes := by rw [← Ln.out, List.take_length]
        have HVf := Lib.hid (hall ▸ HV.out)
        clear hall
        go_wp2_with fail
        go_loopw [6] (fun i wr => ∃ q : Nat, q ≤ nt ∧ i = .int .i64 q ∧ ∃ vt lab, CI w (.cells #[.string g.name, .slice An k cn, .slice Ai ni ci, .slice Ao no co, .slice At_ nt ct] 34 (0, 0)) g.name gb (.slice Ai2 g.ins.length ci2) (.slice Ao2 g.outs.length co2) g.ins g.outs wr (.slice A3 k c3) g.nodes vt (g.inits.take q) lab) (fun i _ => nt - (intOf i).toNat)
        case atStart => exact ⟨0, Nat.zero_le _, rfl, _, _, HVf.out⟩
        case round =>
          obtain ⟨q, hq, rfl, vt, lab, hci⟩ := hrel
          have HV := Lib.hid hci
          have Hbw := Lib.hid hci.below
          have zb := hci.below.size
          have zs := hci.size
          obtain ⟨A5, c5, h5⟩ := hci.ot.form
          have hlk : (g.inits.take q).length = q := by rw [List.length_take]; have := Lt.out; omega
          rw [hlk] at h5
          subst h5
          have HLK := Lib.hid hlk
          have b4 : wr.cell? ⟨w.heap.size, 4, none⟩ = some (.slice At_ nt ct) := cell_of_row _ _ 4 _ 34 (0, 0) hci.box
          clear hlk hci
          by_cases hlt : q < nt
          · obtain ⟨bd, od, a, cs, hA, hbZ, hs, hR, hc⟩ := Ht.out.get hlt
            obtain ⟨d, e, rfl, h3, h4⟩ := hR
            obtain ⟨B1, m1, k1, rfl, h3⟩ := h3
            obtain ⟨B2, m2, k2, rfl, h4⟩ := h4
            have lbd := HZ.out _ hbZ
            have zbd : bd < wr.heap.size := by omega
            have zBx : w.heap.size < wr.heap.size := by omega
            have d2 : wr.cell? ⟨bd, od + q * 4, none⟩ = some (.string a.name) := (Hbw.out.cell (p := ⟨bd, od + q * 4, none⟩) (by exact lbd)).trans (hc 0 (by decide))
            have d3 : wr.cell? ⟨bd, od + q * 4 + 1, none⟩ = some (.int .i64 a.t.typ) := (Hbw.out.cell (p := ⟨bd, od + q * 4 + 1, none⟩) (by exact lbd)).trans (hc 1 (by decide))
            have d4 : wr.cell? ⟨bd, od + q * 4 + 2, none⟩ = some (.slice B1 m1 k1) := (Hbw.out.cell (p := ⟨bd, od + q * 4 + 2, none⟩) (by exact lbd)).trans (hc 2 (by decide))
            have d5 : wr.cell? ⟨bd, od + q * 4 + 3, none⟩ = some (.slice B2 m2 k2) := (Hbw.out.cell (p := ⟨bd, od + q * 4 + 3, none⟩) (by exact lbd)).trans (hc 3 (by decide))
            have Ht2 := Lib.hid (show g.inits.take q ++ [a] = g.inits.take (q + 1) by rw [List.take_add_one, hs]; rfl)
            obtain ⟨o1, o2⟩ := HOK.out.init a (List.mem_of_getElem? hs)
            subst hA
            have d0 := b4
            have d1 : wr.cell? ⟨gb, 4, none⟩ = some (.slice A5 q c5) := cell_of_row _ _ 4 _ 34 (0, 0) HV.out.row
            have HT := Lib.hid (copyT_any a.t wr.drew Z B1 B2 m1 k1 m2 k2 (h3.keep (fun k hk => Hbw.out.block k (HZ.out k hk)) (fun _ h => h)) (h4.keep (fun k hk => Hbw.out.block k (HZ.out k hk)) (fun _ h => h)) (fun k hk => Nat.lt_of_lt_of_le (HZ.out k hk) Hbw.out.size) (by rw [← h3.len]; exact o1) (by rw [← h4.len]; exact o2))
            have HVd := Lib.hid (HV.out.later ((Below.refl wr.heap.size wr).drew))
            clear hs hc h3 h4 o1 o2 b4
            go_wp2_with fail
            refine wp_region_held_drew (S := fun W => W.cell? ⟨w.heap.size, 4, none⟩ = some (.slice (some ⟨bd, od, none⟩) nt ct) ∧ W.cell? ⟨bd, od + q * 4, none⟩ = some (.string a.name) ∧ W.cell? ⟨bd, od + q * 4 + 1, none⟩ = some (.int .i64 a.t.typ) ∧ W.cell? ⟨bd, od + q * 4 + 2, none⟩ = some (.slice B1 m1 k1) ∧ W.cell? ⟨bd, od + q * 4 + 3, none⟩ = some (.slice B2 m2 k2)) (by kernel_rfl) ⟨d0, d2, d3, d4, d5⟩ (fun hHeld => ?_)
            refine wpAnyH_take (i := 0) (v := ?_) rfl (by kernel_rfl) (by kernel_rfl) (by kernel_rfl) (fun _ _ _ h => h) (Or.inl ⟨by rfl, ?_⟩) (by assumption) ?_
            rotate_left
            · first | (intro w hSw; (try dsimp only at hSw); go_simp; done) | (intro w hSw; (try dsimp only at hSw); go_simp; with_reducible rfl)
            try simp only [Act.put, List.getElem_toArray, List.getElem_cons_zero, List.setIfInBounds_toArray, List.set_cons_zero, List.set_cons_succ]
            refine wpAnyH_take (i := 2) (v := ?_) rfl (by kernel_rfl) (by kernel_rfl) (by kernel_rfl) (fun _ _ _ h => h) (Or.inl ⟨by rfl, ?_⟩) (by assumption) ?_
            rotate_left
            · first | (intro w hSw; (try dsimp only at hSw); go_simp; done) | (intro w hSw; (try dsimp only at hSw); go_simp; with_reducible rfl)
            try simp only [Act.put, List.getElem_toArray, List.getElem_cons_zero, List.getElem_cons_succ, List.setIfInBounds_toArray, List.set_cons_zero, List.set_cons_succ]
            refine wpAnyH_take (i := 3) (v := ?_) rfl (by kernel_rfl) (by kernel_rfl) (by kernel_rfl) (fun _ _ _ h => h) (Or.inl ⟨by rfl, ?_⟩) (by assumption) ?_
            rotate_left
            · first | (intro w hSw; (try dsimp only at hSw); go_simp; done) | (intro w hSw; (try dsimp only at hSw); go_simp; with_reducible rfl)
            try simp only [Act.put, List.getElem_toArray, List.getElem_cons_zero, List.getElem_cons_succ, List.setIfInBounds_toArray, List.set_cons_zero, List.set_cons_succ]
            refine wpAnyH_take (i := 4) (v := ?_) rfl (by kernel_rfl) (by kernel_rfl) (by kernel_rfl) (fun _ _ _ h => h) (Or.inl ⟨by rfl, ?_⟩) (by assumption) ?_
            rotate_left
            · first | (intro w hSw; (try dsimp only at hSw); go_simp; done) | (intro w hSw; (try dsimp only at hSw); go_simp; with_reducible rfl)
            try simp only [Act.put, List.getElem_toArray, List.getElem_cons_zero, List.getElem_cons_succ, List.setIfInBounds_toArray, List.set_cons_zero, List.set_cons_succ]
            refine wpAnyH_take (i := 5) (v := ?_) rfl (by kernel_rfl) (by kernel_rfl) (by kernel_rfl) (fun _ _ _ h => h) (Or.inl ⟨by rfl, ?_⟩) (by assumption) ?_
            rotate_left
            · first | (intro w hSw; (try dsimp only at hSw); go_simp; done) | (intro w hSw; (try dsimp only at hSw); go_simp; with_reducible rfl)
            try simp only [Act.put, List.getElem_toArray, List.getElem_cons_zero, List.getElem_cons_succ, List.setIfInBounds_toArray, List.set_cons_zero, List.set_cons_succ]
            refine wpAnyH_take (i := 6) (v := ?_) rfl (by kernel_rfl) (by kernel_rfl) (by kernel_rfl) (fun _ _ _ h => h) (Or.inl ⟨by rfl, ?_⟩) (by assumption) ?_
            rotate_left
            · first | (intro w hSw; (try dsimp only at hSw); go_simp; done) | (intro w hSw; (try dsimp only at hSw); go_simp; with_reducible rfl)
            try simp only [Act.put, List.getElem_toArray, List.getElem_cons_zero, List.getElem_cons_succ, List.setIfInBounds_toArray, List.set_cons_zero, List.set_cons_succ]
            refine wpAnyH_take (i := 7) (v := ?_) rfl (by kernel_rfl) (by kernel_rfl) (by kernel_rfl) (fun _ _ _ h => h) (Or.inl ⟨by rfl, ?_⟩) (by assumption) ?_
            rotate_left
            · first | (intro w hSw; (try dsimp only at hSw); go_simp; done) | (intro w hSw; (try dsimp only at hSw); go_simp; with_reducible rfl)
            try simp only [Act.put, List.getElem_toArray, List.getElem_cons_zero, List.getElem_cons_succ, List.setIfInBounds_toArray, List.set_cons_zero, List.set_cons_succ]
            refine wpAnyH_take (i := 8) (v := ?_) rfl (by kernel_rfl) (by kernel_rfl) (by kernel_rfl) (fun _ _ _ h => h) (Or.inl ⟨by rfl, ?_⟩) (by assumption) ?_
            rotate_left
            · first | (intro w hSw; (try dsimp only at hSw); go_simp; done) | (intro w hSw; (try dsimp only at hSw); go_simp; with_reducible rfl)
            try simp only [Act.put, List.getElem_toArray, List.getElem_cons_zero, List.getElem_cons_succ, List.setIfInBounds_toArray, List.set_cons_zero, List.set_cons_succ]
            refine wpAnyH_take (i := 9) (v := ?_) rfl (by kernel_rfl) (by kernel_rfl) (by kernel_rfl) (fun _ _ _ h => h) (Or.inl ⟨by rfl, ?_⟩) (by assumption) ?_
            rotate_left
            · first | (intro w hSw; (try dsimp only at hSw); go_simp; done) | (intro w hSw; (try dsimp only at hSw); go_simp; with_reducible rfl)
            try simp only [Act.put, List.getElem_toArray, List.getElem_cons_zero, List.getElem_cons_succ, List.setIfInBounds_toArray, List.set_cons_zero, List.set_cons_succ]
            refine wpAnyH_take (i := 10) (v := ?_) rfl (by kernel_rfl) (by kernel_rfl) (by kernel_rfl) (fun _ _ _ h => h) (Or.inl ⟨by rfl, ?_⟩) (by assumption) ?_
            rotate_left
            · first | (intro w hSw; (try dsimp only at hSw); go_simp; done) | (intro w hSw; (try dsimp only at hSw); go_simp; with_reducible rfl)
            try simp only [Act.put, List.getElem_toArray, List.getElem_cons_zero, List.getElem_cons_succ, List.setIfInBounds_toArray, List.set_cons_zero, List.set_cons_succ]
            refine wpAnyH_take (i := 11) (v := ?_) rfl (by kernel_rfl) (by kernel_rfl) (by kernel_rfl) (fun _ _ _ h => h) (Or.inl ⟨by rfl, ?_⟩) (by assumption) ?_
            rotate_left
            · first | (intro w hSw; (try dsimp only at hSw); go_simp; done) | (intro w hSw; (try dsimp only at hSw); go_simp; with_reducible rfl)
            try simp only [Act.put, List.getElem_toArray, List.getElem_cons_zero, List.getElem_cons_succ, List.setIfInBounds_toArray, List.set_cons_zero, List.set_cons_succ]
            refine wpAnyH_take (i := 12) (v := ?_) rfl (by kernel_rfl) (by kernel_rfl) (by kernel_rfl) (fun _ _ _ h => h) (Or.inl ⟨by rfl, ?_⟩) (by assumption) ?_
            rotate_left
            · first | (intro w hSw; (try dsimp only at hSw); go_simp; done) | (intro w hSw; (try dsimp only at hSw); go_simp; with_reducible rfl)
            try simp only [Act.put, List.getElem_toArray, List.getElem_cons_zero, List.getElem_cons_succ, List.setIfInBounds_toArray, List.set_cons_zero, List.set_cons_succ]
            refine wpAnyH_take (i := 13) (v := ?_) rfl (by kernel_rfl) (by kernel_rfl) (by kernel_rfl) (fun _ _ _ h => h) (Or.inl ⟨by rfl, ?_⟩) (by assumption) ?_
            rotate_left
            · first | (intro w hSw; (try dsimp only at hSw); go_simp; done) | (intro w hSw; (try dsimp only at hSw); go_simp; with_reducible rfl)
            try simp only [Act.put, List.getElem_toArray, List.getElem_cons_zero, List.getElem_cons_succ, List.setIfInBounds_toArray, List.set_cons_zero, List.set_cons_succ]
            refine wpAnyH_ready (rs := [1, 14]) (by kernel_rfl) (by simp) ?_
            refine (AllReadyH.cons rfl (fun K hK => ?_) (AllReadyH.cons rfl (fun K hK => ?_) AllReadyH.nil))
            · go_simp
              refine hK.out _ _ ⟨d0, d2, d3, d4, d5⟩ (fun hH0 => ?_)
              clear hK K
              try simp only [Act.put, List.getElem_toArray, List.getElem_cons_zero, List.getElem_cons_succ, List.setIfInBounds_toArray, List.set_cons_zero, List.set_cons_succ]
              refine wpAnyH_ready (rs := [14]) (by kernel_rfl) (by simp) ?_
              refine (AllReadyH.cons rfl (fun K hK => ?_) AllReadyH.nil)
              · go_simp
                go_at_call 30
                (with_reducible refine HT.out.mono ?_)
                rintro e wa ⟨T1, t1, T2, t2, rfl, hs1, hs2, hba⟩
                have j0 := (hba.cell (p := ⟨w.heap.size, 4, none⟩) (by exact zBx)).trans d0
                have j1 := (hba.cell (p := ⟨gb, 4, none⟩) (by exact zs)).trans d1
                have j2 := (hba.cell (p := ⟨bd, od + q * 4, none⟩) (by exact zbd)).trans d2
                have j3 := (hba.cell (p := ⟨bd, od + q * 4 + 1, none⟩) (by exact zbd)).trans d3
                have j4 := (hba.cell (p := ⟨bd, od + q * 4 + 2, none⟩) (by exact zbd)).trans d4
                have j5 := (hba.cell (p := ⟨bd, od + q * 4 + 3, none⟩) (by exact zbd)).trans d5
                have zwa : wr.heap.size ≤ wa.heap.size := hba.size
                have HVa := Lib.hid (HVd.out.later hba)
                have HRa := Lib.hid (rep_made (ρ := repNm) (w := wr) (lab := lab) (lo := w.heap.size) (w' := wa) (cs := [.string a.name, .int .i64 a.t.typ, .slice T1 a.t.dims.length t1, .slice T2 a.t.data.length t2]) (x := a) ⟨_, _, rfl, ⟨_, _, _, rfl, hs1⟩, ⟨_, _, _, rfl, hs2⟩⟩ HV.out.fr zb)
                have m0 := (World.cell?_alloc_lt wa (.cells #[.string a.name, .int .i64 a.t.typ, .slice T1 a.t.dims.length t1, .slice T2 a.t.data.length t2] 69) ⟨w.heap.size, 4, none⟩ (by dsimp only; omega)).trans j0
                have m1 := (World.cell?_alloc_lt wa (.cells #[.string a.name, .int .i64 a.t.typ, .slice T1 a.t.dims.length t1, .slice T2 a.t.data.length t2] 69) ⟨gb, 4, none⟩ (by dsimp only; omega)).trans j1
                have m2 := (World.cell?_alloc_lt wa (.cells #[.string a.name, .int .i64 a.t.typ, .slice T1 a.t.dims.length t1, .slice T2 a.t.data.length t2] 69) ⟨bd, od + q * 4, none⟩ (by dsimp only; omega)).trans j2
                have m3 := (World.cell?_alloc_lt wa (.cells #[.string a.name, .int .i64 a.t.typ, .slice T1 a.t.dims.length t1, .slice T2 a.t.data.length t2] 69) ⟨bd, od + q * 4 + 1, none⟩ (by dsimp only; omega)).trans j3
                have m4 := (World.cell?_alloc_lt wa (.cells #[.string a.name, .int .i64 a.t.typ, .slice T1 a.t.dims.length t1, .slice T2 a.t.data.length t2] 69) ⟨bd, od + q * 4 + 2, none⟩ (by dsimp only; omega)).trans j4
                have m5 := (World.cell?_alloc_lt wa (.cells #[.string a.name, .int .i64 a.t.typ, .slice T1 a.t.dims.length t1, .slice T2 a.t.data.length t2] 69) ⟨bd, od + q * 4 + 3, none⟩ (by dsimp only; omega)).trans j5
                clear hba hs1 hs2
                dsimp only
                refine hK.out _ _ ⟨j0, j2, j3, j4, j5⟩ (fun hH1 => ?_)
                clear hK K
                try simp only [Act.put, List.getElem_toArray, List.getElem_cons_zero, List.getElem_cons_succ, List.setIfInBounds_toArray, List.set_cons_zero, List.set_cons_succ]
                refine wpAnyH_take (i := 15) (v := ?_) rfl (by kernel_rfl) (by kernel_rfl) (by kernel_rfl) (fun _ _ _ h => h) (Or.inl ⟨by rfl, ?_⟩) (by assumption) ?_
                rotate_left
                · first | (intro w hSw; (try dsimp only at hSw); go_simp; done) | (intro w hSw; (try dsimp only at hSw); go_simp; with_reducible rfl)
                try simp only [Act.put, List.getElem_toArray, List.getElem_cons_zero, List.getElem_cons_succ, List.setIfInBounds_toArray, List.set_cons_zero, List.set_cons_succ]
                refine wpAnyH_ready (rs := [16]) (by kernel_rfl) (by simp) ?_
                refine (AllReadyH.cons rfl (fun K hK => ?_) AllReadyH.nil)
                · go_simp
                  refine hK.out _ _ ⟨m0, m2, m3, m4, m5⟩ (fun hH3 => ?_)
                  clear hK K
                  try simp only [Act.put, List.getElem_toArray, List.getElem_cons_zero, List.getElem_cons_succ, List.setIfInBounds_toArray, List.set_cons_zero, List.set_cons_succ]
                  refine wpAnyH_ready (rs := [17]) (by kernel_rfl) (by simp) ?_
                  refine (AllReadyH.cons rfl (fun K hK => ?_) AllReadyH.nil)
                  · refine step_append_o wa repNm a [.string a.name, .int .i64 a.t.typ, .slice T1 a.t.dims.length t1, .slice T2 a.t.data.length t2] (by rfl) (.tmp 43) (.tmp 58) 32 (by rfl) 69 i69 _ 72 Try.underlying32 HI69.out.1 HI69.out.2.1 HI69.out.2.2.1 HI69.out.2.2.2 rfl (by decide) (by decide) lab 4 (by decide) w.heap.size (.slice A5 q c5) (g.inits.take q) (by rfl) HVa.out.ot HVa.out.fr HRa.out wa.heap.size rfl (by rfl) (by rw [HLK.out]; omega) (by omega) ?_
                    intro v' w7 lab' ho7 hg7
                    obtain ⟨Aw, mw, cw, hvw⟩ : ∃ A m c, v' = .slice A m c := (by obtain ⟨A, c, e⟩ := OL.form ho7; exact ⟨A, _, c, e⟩)
                    subst hvw
                    have q0 := (World.cell?_of_block (a := ⟨w.heap.size, 4, none⟩) (HVa.out.keep5 (by decide) hg7 (.inl rfl)).1).trans j0
                    have q1 := (World.cell?_of_block (a := ⟨gb, 4, none⟩) (HVa.out.keep5 (by decide) hg7 (.inr (.inr rfl))).1).trans j1
                    have q2 := (World.cell?_of_block (a := ⟨bd, od + q * 4, none⟩) (HVa.out.lowK (by decide) hg7 lbd).1).trans j2
                    have q3 := (World.cell?_of_block (a := ⟨bd, od + q * 4 + 1, none⟩) (HVa.out.lowK (by decide) hg7 lbd).1).trans j3
                    have q4 := (World.cell?_of_block (a := ⟨bd, od + q * 4 + 2, none⟩) (HVa.out.lowK (by decide) hg7 lbd).1).trans j4
                    have q5 := (World.cell?_of_block (a := ⟨bd, od + q * 4 + 3, none⟩) (HVa.out.lowK (by decide) hg7 lbd).1).trans j5
                    have qf1 : w7.frozen? ⟨gb, 4, none⟩ = false := (by have h := (HVa.out.keep5 (by decide) hg7 (.inr (.inr rfl))).1.trans HVa.out.row; simp [World.frozen?, h])
                    have HV7 := Lib.hid (HVa.out.moreT hg7 (Ht2.out ▸ ho7))
                    have r0 := (World.cell?_setCell_far w7 ⟨gb, 4, none⟩ ⟨w.heap.size, 4, none⟩ (.slice Aw mw cw) (by dsimp only; omega)).trans q0
                    have r2 := (World.cell?_setCell_far w7 ⟨gb, 4, none⟩ ⟨bd, od + q * 4, none⟩ (.slice Aw mw cw) (by dsimp only; omega)).trans q2
                    have r3 := (World.cell?_setCell_far w7 ⟨gb, 4, none⟩ ⟨bd, od + q * 4 + 1, none⟩ (.slice Aw mw cw) (by dsimp only; omega)).trans q3
                    have r4 := (World.cell?_setCell_far w7 ⟨gb, 4, none⟩ ⟨bd, od + q * 4 + 2, none⟩ (.slice Aw mw cw) (by dsimp only; omega)).trans q4
                    have r5 := (World.cell?_setCell_far w7 ⟨gb, 4, none⟩ ⟨bd, od + q * 4 + 3, none⟩ (.slice Aw mw cw) (by dsimp only; omega)).trans q5
                    clear ho7 hg7
                    refine hK.out _ _ ⟨q0, q2, q3, q4, q5⟩ (fun hH4 => ?_)
                    clear hK K
                    try simp only [Act.put, List.getElem_toArray, List.getElem_cons_zero, List.getElem_cons_succ, List.setIfInBounds_toArray, List.set_cons_zero, List.set_cons_succ]
                    refine wpAnyH_take (i := 18) (v := ?_) rfl (by kernel_rfl) (by kernel_rfl) (by kernel_rfl) (fun _ _ _ h => h) (Or.inl ⟨by rfl, ?_⟩) (by assumption) ?_
                    rotate_left
                    · first | (intro w hSw; (try dsimp only at hSw); go_simp; done) | (intro w hSw; (try dsimp only at hSw); go_simp; with_reducible rfl)
                    try simp only [Act.put, List.getElem_toArray, List.getElem_cons_zero, List.getElem_cons_succ, List.setIfInBounds_toArray, List.set_cons_zero, List.set_cons_succ]
                    refine wpAnyH_ready (rs := [19]) (by kernel_rfl) (by simp) ?_
                    refine (AllReadyH.cons rfl (fun K hK => ?_) AllReadyH.nil)
                    · go_simp
                      refine hK.out _ _ ⟨r0, r2, r3, r4, r5⟩ (fun hH6 => ?_)
                      clear hK K
                      try simp only [Act.put, List.getElem_toArray, List.getElem_cons_zero, List.getElem_cons_succ, List.setIfInBounds_toArray, List.set_cons_zero, List.set_cons_succ]
                      refine wpAnyH_done (by kernel_rfl) ?_ _
                      go_wp2_with fail
                      go_roundw
                      case rel => exact ⟨q + 1, by omega, by go_num, _, _, HV7.out⟩
                      case measure => simp [intOf]; omega
            · go_simp
              go_at_call 30
              (with_reducible refine HT.out.mono ?_)
              rintro e wa ⟨T1, t1, T2, t2, rfl, hs1, hs2, hba⟩
              have j0 := (hba.cell (p := ⟨w.heap.size, 4, none⟩) (by exact zBx)).trans d0
              have j1 := (hba.cell (p := ⟨gb, 4, none⟩) (by exact zs)).trans d1
              have j2 := (hba.cell (p := ⟨bd, od + q * 4, none⟩) (by exact zbd)).trans d2
              have j3 := (hba.cell (p := ⟨bd, od + q * 4 + 1, none⟩) (by exact zbd)).trans d3
              have j4 := (hba.cell (p := ⟨bd, od + q * 4 + 2, none⟩) (by exact zbd)).trans d4
              have j5 := (hba.cell (p := ⟨bd, od + q * 4 + 3, none⟩) (by exact zbd)).trans d5
              have zwa : wr.heap.size ≤ wa.heap.size := hba.size
              have HVa := Lib.hid (HVd.out.later hba)
              have HRa := Lib.hid (rep_made (ρ := repNm) (w := wr) (lab := lab) (lo := w.heap.size) (w' := wa) (cs := [.string a.name, .int .i64 a.t.typ, .slice T1 a.t.dims.length t1, .slice T2 a.t.data.length t2]) (x := a) ⟨_, _, rfl, ⟨_, _, _, rfl, hs1⟩, ⟨_, _, _, rfl, hs2⟩⟩ HV.out.fr zb)
              have m0 := (World.cell?_alloc_lt wa (.cells #[.string a.name, .int .i64 a.t.typ, .slice T1 a.t.dims.length t1, .slice T2 a.t.data.length t2] 69) ⟨w.heap.size, 4, none⟩ (by dsimp only; omega)).trans j0
              have m1 := (World.cell?_alloc_lt wa (.cells #[.string a.name, .int .i64 a.t.typ, .slice T1 a.t.dims.length t1, .slice T2 a.t.data.length t2] 69) ⟨gb, 4, none⟩ (by dsimp only; omega)).trans j1
              have m2 := (World.cell?_alloc_lt wa (.cells #[.string a.name, .int .i64 a.t.typ, .slice T1 a.t.dims.length t1, .slice T2 a.t.data.length t2] 69) ⟨bd, od + q * 4, none⟩ (by dsimp only; omega)).trans j2
              have m3 := (World.cell?_alloc_lt wa (.cells #[.string a.name, .int .i64 a.t.typ, .slice T1 a.t.dims.length t1, .slice T2 a.t.data.length t2] 69) ⟨bd, od + q * 4 + 1, none⟩ (by dsimp only; omega)).trans j3
              have m4 := (World.cell?_alloc_lt wa (.cells #[.string a.name, .int .i64 a.t.typ, .slice T1 a.t.dims.length t1, .slice T2 a.t.data.length t2] 69) ⟨bd, od + q * 4 + 2, none⟩ (by dsimp only; omega)).trans j4
              have m5 := (World.cell?_alloc_lt wa (.cells #[.string a.name, .int .i64 a.t.typ, .slice T1 a.t.dims.length t1, .slice T2 a.t.data.length t2] 69) ⟨bd, od + q * 4 + 3, none⟩ (by dsimp only; omega)).trans j5
              clear hba hs1 hs2
              dsimp only
              refine hK.out _ _ ⟨j0, j2, j3, j4, j5⟩ (fun hH0 => ?_)
              clear hK K
              try simp only [Act.put, List.getElem_toArray, List.getElem_cons_zero, List.getElem_cons_succ, List.setIfInBounds_toArray, List.set_cons_zero, List.set_cons_succ]
              refine wpAnyH_take (i := 15) (v := ?_) rfl (by kernel_rfl) (by kernel_rfl) (by kernel_rfl) (fun _ _ _ h => h) (Or.inl ⟨by rfl, ?_⟩) (by assumption) ?_
              rotate_left
              · first | (intro w hSw; (try dsimp only at hSw); go_simp; done) | (intro w hSw; (try dsimp only at hSw); go_simp; with_reducible rfl)
              try simp only [Act.put, List.getElem_toArray, List.getElem_cons_zero, List.getElem_cons_succ, List.setIfInBounds_toArray, List.set_cons_zero, List.set_cons_succ]
              refine wpAnyH_ready (rs := [1, 16]) (by kernel_rfl) (by simp) ?_
              refine (AllReadyH.cons rfl (fun K hK => ?_) (AllReadyH.cons rfl (fun K hK => ?_) AllReadyH.nil))
              · go_simp
                refine hK.out _ _ ⟨j0, j2, j3, j4, j5⟩ (fun hH2 => ?_)
                clear hK K
                try simp only [Act.put, List.getElem_toArray, List.getElem_cons_zero, List.getElem_cons_succ, List.setIfInBounds_toArray, List.set_cons_zero, List.set_cons_succ]
                refine wpAnyH_ready (rs := [16]) (by kernel_rfl) (by simp) ?_
                refine (AllReadyH.cons rfl (fun K hK => ?_) AllReadyH.nil)
                · go_simp
                  refine hK.out _ _ ⟨m0, m2, m3, m4, m5⟩ (fun hH3 => ?_)
                  clear hK K
                  try simp only [Act.put, List.getElem_toArray, List.getElem_cons_zero, List.getElem_cons_succ, List.setIfInBounds_toArray, List.set_cons_zero, List.set_cons_succ]
                  refine wpAnyH_ready (rs := [17]) (by kernel_rfl) (by simp) ?_
                  refine (AllReadyH.cons rfl (fun K hK => ?_) AllReadyH.nil)
                  · refine step_append_o wa repNm a [.string a.name, .int .i64 a.t.typ, .slice T1 a.t.dims.length t1, .slice T2 a.t.data.length t2] (by rfl) (.tmp 43) (.tmp 58) 32 (by rfl) 69 i69 _ 72 Try.underlying32 HI69.out.1 HI69.out.2.1 HI69.out.2.2.1 HI69.out.2.2.2 rfl (by decide) (by decide) lab 4 (by decide) w.heap.size (.slice A5 q c5) (g.inits.take q) (by rfl) HVa.out.ot HVa.out.fr HRa.out wa.heap.size rfl (by rfl) (by rw [HLK.out]; omega) (by omega) ?_
                    intro v' w7 lab' ho7 hg7
                    obtain ⟨Aw, mw, cw, hvw⟩ : ∃ A m c, v' = .slice A m c := (by obtain ⟨A, c, e⟩ := OL.form ho7; exact ⟨A, _, c, e⟩)
                    subst hvw
                    have q0 := (World.cell?_of_block (a := ⟨w.heap.size, 4, none⟩) (HVa.out.keep5 (by decide) hg7 (.inl rfl)).1).trans j0
                    have q1 := (World.cell?_of_block (a := ⟨gb, 4, none⟩) (HVa.out.keep5 (by decide) hg7 (.inr (.inr rfl))).1).trans j1
                    have q2 := (World.cell?_of_block (a := ⟨bd, od + q * 4, none⟩) (HVa.out.lowK (by decide) hg7 lbd).1).trans j2
                    have q3 := (World.cell?_of_block (a := ⟨bd, od + q * 4 + 1, none⟩) (HVa.out.lowK (by decide) hg7 lbd).1).trans j3
                    have q4 := (World.cell?_of_block (a := ⟨bd, od + q * 4 + 2, none⟩) (HVa.out.lowK (by decide) hg7 lbd).1).trans j4
                    have q5 := (World.cell?_of_block (a := ⟨bd, od + q * 4 + 3, none⟩) (HVa.out.lowK (by decide) hg7 lbd).1).trans j5
                    have qf1 : w7.frozen? ⟨gb, 4, none⟩ = false := (by have h := (HVa.out.keep5 (by decide) hg7 (.inr (.inr rfl))).1.trans HVa.out.row; simp [World.frozen?, h])
                    have HV7 := Lib.hid (HVa.out.moreT hg7 (Ht2.out ▸ ho7))
                    have r0 := (World.cell?_setCell_far w7 ⟨gb, 4, none⟩ ⟨w.heap.size, 4, none⟩ (.slice Aw mw cw) (by dsimp only; omega)).trans q0
                    have r2 := (World.cell?_setCell_far w7 ⟨gb, 4, none⟩ ⟨bd, od + q * 4, none⟩ (.slice Aw mw cw) (by dsimp only; omega)).trans q2
                    have r3 := (World.cell?_setCell_far w7 ⟨gb, 4, none⟩ ⟨bd, od + q * 4 + 1, none⟩ (.slice Aw mw cw) (by dsimp only; omega)).trans q3
                    have r4 := (World.cell?_setCell_far w7 ⟨gb, 4, none⟩ ⟨bd, od + q * 4 + 2, none⟩ (.slice Aw mw cw) (by dsimp only; omega)).trans q4
                    have r5 := (World.cell?_setCell_far w7 ⟨gb, 4, none⟩ ⟨bd, od + q * 4 + 3, none⟩ (.slice Aw mw cw) (by dsimp only; omega)).trans q5
                    clear ho7 hg7
                    refine hK.out _ _ ⟨q0, q2, q3, q4, q5⟩ (fun hH4 => ?_)
                    clear hK K
                    try simp only [Act.put, List.getElem_toArray, List.getElem_cons_zero, List.getElem_cons_succ, List.setIfInBounds_toArray, List.set_cons_zero, List.set_cons_succ]
                    refine wpAnyH_take (i := 18) (v := ?_) rfl (by kernel_rfl) (by kernel_rfl) (by kernel_rfl) (fun _ _ _ h => h) (Or.inl ⟨by rfl, ?_⟩) (by assumption) ?_
                    rotate_left
                    · first | (intro w hSw; (try dsimp only at hSw); go_simp; done) | (intro w hSw; (try dsimp only at hSw); go_simp; with_reducible rfl)
                    try simp only [Act.put, List.getElem_toArray, List.getElem_cons_zero, List.getElem_cons_succ, List.setIfInBounds_toArray, List.set_cons_zero, List.set_cons_succ]
                    refine wpAnyH_ready (rs := [19]) (by kernel_rfl) (by simp) ?_
                    refine (AllReadyH.cons rfl (fun K hK => ?_) AllReadyH.nil)
                    · go_simp
                      refine hK.out _ _ ⟨r0, r2, r3, r4, r5⟩ (fun hH6 => ?_)
                      clear hK K
                      try simp only [Act.put, List.getElem_toArray, List.getElem_cons_zero, List.getElem_cons_succ, List.setIfInBounds_toArray, List.set_cons_zero, List.set_cons_succ]
                      refine wpAnyH_done (by kernel_rfl) ?_ _
                      go_wp2_with fail
                      go_roundw
                      case rel => exact ⟨q + 1, by omega, by go_num, _, _, HV7.out⟩
                      case measure => simp [intOf]; omega
              · go_simp
                refine hK.out _ _ ⟨m0, m2, m3, m4, m5⟩ (fun hH2 => ?_)
                clear hK K
                try simp only [Act.put, List.getElem_toArray, List.getElem_cons_zero, List.getElem_cons_succ, List.setIfInBounds_toArray, List.set_cons_zero, List.set_cons_succ]
                refine wpAnyH_ready (rs := [1]) (by kernel_rfl) (by simp) ?_
                refine (AllReadyH.cons rfl (fun K hK => ?_) AllReadyH.nil)
                · go_simp
                  refine hK.out _ _ ⟨m0, m2, m3, m4, m5⟩ (fun hH3 => ?_)
                  clear hK K
                  try simp only [Act.put, List.getElem_toArray, List.getElem_cons_zero, List.getElem_cons_succ, List.setIfInBounds_toArray, List.set_cons_zero, List.set_cons_succ]
                  refine wpAnyH_ready (rs := [17]) (by kernel_rfl) (by simp) ?_
                  refine (AllReadyH.cons rfl (fun K hK => ?_) AllReadyH.nil)
                  · refine step_append_o wa repNm a [.string a.name, .int .i64 a.t.typ, .slice T1 a.t.dims.length t1, .slice T2 a.t.data.length t2] (by rfl) (.tmp 43) (.tmp 58) 32 (by rfl) 69 i69 _ 72 Try.underlying32 HI69.out.1 HI69.out.2.1 HI69.out.2.2.1 HI69.out.2.2.2 rfl (by decide) (by decide) lab 4 (by decide) w.heap.size (.slice A5 q c5) (g.inits.take q) (by rfl) HVa.out.ot HVa.out.fr HRa.out wa.heap.size rfl (by rfl) (by rw [HLK.out]; omega) (by omega) ?_
                    intro v' w7 lab' ho7 hg7
                    obtain ⟨Aw, mw, cw, hvw⟩ : ∃ A m c, v' = .slice A m c := (by obtain ⟨A, c, e⟩ := OL.form ho7; exact ⟨A, _, c, e⟩)
                    subst hvw
                    have q0 := (World.cell?_of_block (a := ⟨w.heap.size, 4, none⟩) (HVa.out.keep5 (by decide) hg7 (.inl rfl)).1).trans j0
                    have q1 := (World.cell?_of_block (a := ⟨gb, 4, none⟩) (HVa.out.keep5 (by decide) hg7 (.inr (.inr rfl))).1).trans j1
                    have q2 := (World.cell?_of_block (a := ⟨bd, od + q * 4, none⟩) (HVa.out.lowK (by decide) hg7 lbd).1).trans j2
                    have q3 := (World.cell?_of_block (a := ⟨bd, od + q * 4 + 1, none⟩) (HVa.out.lowK (by decide) hg7 lbd).1).trans j3
                    have q4 := (World.cell?_of_block (a := ⟨bd, od + q * 4 + 2, none⟩) (HVa.out.lowK (by decide) hg7 lbd).1).trans j4
                    have q5 := (World.cell?_of_block (a := ⟨bd, od + q * 4 + 3, none⟩) (HVa.out.lowK (by decide) hg7 lbd).1).trans j5
                    have qf1 : w7.frozen? ⟨gb, 4, none⟩ = false := (by have h := (HVa.out.keep5 (by decide) hg7 (.inr (.inr rfl))).1.trans HVa.out.row; simp [World.frozen?, h])
                    have HV7 := Lib.hid (HVa.out.moreT hg7 (Ht2.out ▸ ho7))
                    have r0 := (World.cell?_setCell_far w7 ⟨gb, 4, none⟩ ⟨w.heap.size, 4, none⟩ (.slice Aw mw cw) (by dsimp only; omega)).trans q0
                    have r2 := (World.cell?_setCell_far w7 ⟨gb, 4, none⟩ ⟨bd, od + q * 4, none⟩ (.slice Aw mw cw) (by dsimp only; omega)).trans q2
                    have r3 := (World.cell?_setCell_far w7 ⟨gb, 4, none⟩ ⟨bd, od + q * 4 + 1, none⟩ (.slice Aw mw cw) (by dsimp only; omega)).trans q3
                    have r4 := (World.cell?_setCell_far w7 ⟨gb, 4, none⟩ ⟨bd, od + q * 4 + 2, none⟩ (.slice Aw mw cw) (by dsimp only; omega)).trans q4
                    have r5 := (World.cell?_setCell_far w7 ⟨gb, 4, none⟩ ⟨bd, od + q * 4 + 3, none⟩ (.slice Aw mw cw) (by dsimp only; omega)).trans q5
                    clear ho7 hg7
                    refine hK.out _ _ ⟨q0, q2, q3, q4, q5⟩ (fun hH4 => ?_)
                    clear hK K
                    try simp only [Act.put, List.getElem_toArray, List.getElem_cons_zero, List.getElem_cons_succ, List.setIfInBounds_toArray, List.set_cons_zero, List.set_cons_succ]
                    refine wpAnyH_take (i := 18) (v := ?_) rfl (by kernel_rfl) (by kernel_rfl) (by kernel_rfl) (fun _ _ _ h => h) (Or.inl ⟨by rfl, ?_⟩) (by assumption) ?_
                    rotate_left
                    · first | (intro w hSw; (try dsimp only at hSw); go_simp; done) | (intro w hSw; (try dsimp only at hSw); go_simp; with_reducible rfl)
                    try simp only [Act.put, List.getElem_toArray, List.getElem_cons_zero, List.getElem_cons_succ, List.setIfInBounds_toArray, List.set_cons_zero, List.set_cons_succ]
                    refine wpAnyH_ready (rs := [19]) (by kernel_rfl) (by simp) ?_
                    refine (AllReadyH.cons rfl (fun K hK => ?_) AllReadyH.nil)
                    · go_simp
                      refine hK.out _ _ ⟨r0, r2, r3, r4, r5⟩ (fun hH6 => ?_)
                      clear hK K
                      try simp only [Act.put, List.getElem_toArray, List.getElem_cons_zero, List.getElem_cons_succ, List.setIfInBounds_toArray, List.set_cons_zero, List.set_cons_succ]
                      refine wpAnyH_done (by kernel_rfl) ?_ _
                      go_wp2_with fail
                      go_roundw
                      case rel => exact ⟨q + 1, by omega, by go_num, _, _, HV7.out⟩
                      case measure => simp [intOf]; omega
          · obtain rfl : q = nt := by omega
            have hall : g.inits.take q = g.inits := by rw [← Lt.out, List.take_length]
            have HVf := Lib.hid (hall ▸ HV.out)
            have hrs := HV.out.res
            have HRs := Lib.hid hrs
            have p0 := cell_of_row _ _ 0 _ 34 (0, 0) HV.out.row
            have p1 := cell_of_row _ _ 1 _ 34 (0, 0) HV.out.row
            have p2 := cell_of_row _ _ 2 _ 34 (0, 0) HV.out.row
            have p3 := cell_of_row _ _ 3 _ 34 (0, 0) HV.out.row
            have p4 := cell_of_row _ _ 4 _ 34 (0, 0) HV.out.row
            have s0 := cell_of_row _ _ 0 _ 34 (0, 0) hrs
            have s1 := cell_of_row _ _ 1 _ 34 (0, 0) hrs
            have s2 := cell_of_row _ _ 2 _ 34 (0, 0) hrs
            have s3 := cell_of_row _ _ 3 _ 34 (0, 0) hrs
            have s4 := cell_of_row _ _ 4 _ 34 (0, 0) hrs
            simp only [List.getElem?_toArray, List.getElem?_cons_zero, List.getElem?_cons_succ] at p0 p1 p2 p3 p4 s0 s1 s2 s3 s4
            have hf : ∀ i, wr.frozen? ⟨w.heap.size + 1, i, none⟩ = false := fun i => by simp [World.frozen?, hrs]
            have e0 := hf 0
            have e1 := hf 1
            have e2 := hf 2
            have e3 := hf 3
            have e4 := hf 4
            have nl := Lib.hid HVf.out.l1
            clear hf hrs hall
            go_wp2
            have rf : (setFrom wr (w.heap.size + 1) 0 [.string g.name, .slice A3 k c3, .slice Ai2 g.ins.length ci2, .slice Ao2 g.outs.length co2, .slice A5 q c5]).heap[w.heap.size + 1]? = some (.cells #[.string g.name, .slice A3 k c3, .slice Ai2 g.ins.length ci2, .slice Ao2 g.outs.length co2, .slice A5 q c5] 34 (0, 0)) := setFrom_heap 34 (w.heap.size + 1) [.string g.name, .slice A3 k c3, .slice Ai2 g.ins.length ci2, .slice Ao2 g.outs.length co2, .slice A5 q c5] 0 wr _ HRs.out
            obtain ⟨kf, zf, _⟩ := setFrom_keep (w.heap.size + 1) [.string g.name, .slice A3 k c3, .slice Ai2 g.ins.length ci2, .slice Ao2 g.outs.length co2, .slice A5 q c5] 0 wr
            have bf : Below w.heap.size w (setFrom wr (w.heap.size + 1) 0 [.string g.name, .slice A3 k c3, .slice Ai2 g.ins.length ci2, .slice Ao2 g.outs.length co2, .slice A5 q c5]) := Hbw.out.trans (setFrom_below (by omega) _ _ _)
            refine bodyPost_ret (results_cell_row rfl _ _ (w.heap.size + 1) 34 _ (0, 0) _ rfl rf Try.underlying34 rfl (by kernel_rfl)) rfl ?_
            show CopIs g w _ (setFrom wr (w.heap.size + 1) 0 [.string g.name, .slice A3 k c3, .slice Ai2 g.ins.length ci2, .slice Ao2 g.outs.length co2, .slice A5 q c5])
            have l1 := nl.out
            refine ⟨A3, c3, Ai2, ci2, Ao2, co2, A5, c5, lab, by rw [Ln.out, Lt.out], ?_, bf⟩
            rw [Ln.out, Lt.out]
            exact ⟨HVf.out.on.far (by rw [l1]; decide) (by rw [l1]; decide) kf zf, HVf.out.oi.far (by rw [l1]; decide) (by rw [l1]; decide) kf zf, HVf.out.oo.far (by rw [l1]; decide) (by rw [l1]; decide) kf zf, HVf.out.ot.far (by rw [l1]; decide) (by rw [l1]; decide) kf zf, fun k hk => HVf.out.fr k (by rw [zf] at hk; exact hk), HVf.out.low⟩
end Go.Proofs.Ytkcnpnnflbibiaa
