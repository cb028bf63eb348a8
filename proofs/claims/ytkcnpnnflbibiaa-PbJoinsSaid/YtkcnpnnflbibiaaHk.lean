/- The law of two parts. -/
import Derived.Test.YtkcnpnnflbibiaaHj
set_option linter.unusedVariables false
namespace Go.Proofs.Ytkcnpnnflbibiaa
open Go.RowKit

theorem jx_start {g h : Gr} {w0 wE wa wX wb wY : World} {xb yb : Nat} {lab labh : Nat → Nat} {lo : Nat} {X1 X2 X3 X4 Y1 Y2 Y3 Y4 : Option Addr} {x1 x2 x3 x4 y1 y2 y3 y4 : Nat} {yrow : Obj}
    (hg : GO g lab wa wE.heap.size (.slice X1 g.nodes.length x1) (.slice X2 g.ins.length x2) (.slice X3 g.outs.length x3) (.slice X4 g.inits.length x4))
    (hh : GO h labh wb wX.heap.size (.slice Y1 h.nodes.length y1) (.slice Y2 h.ins.length y2) (.slice Y3 h.outs.length y3) (.slice Y4 h.inits.length y4))
    (hlo : lo ≤ wE.heap.size) (zx : xb = wa.heap.size) (zX : wX.heap.size = wa.heap.size + 1) (zy : yb = wb.heap.size) (zY : wY.heap.size = wb.heap.size + 1) (zb : wX.heap.size ≤ wb.heap.size) (za : wE.heap.size ≤ wa.heap.size)
    (kb : Below wa.heap.size wa wY) (ky : ∀ k, k < wb.heap.size → wY.heap[k]? = wb.heap[k]?) (hb : Below lo w0 wY) (rx : wY.heap[xb]? = some (.cells #[.string g.name, .slice X1 g.nodes.length x1, .slice X2 g.ins.length x2, .slice X3 g.outs.length x3, .slice X4 g.inits.length x4] 34 (0, 0))) (ry : wY.heap[yb]? = some yrow) :
    ∃ lab', JX lo w0 wY xb yb h Y1 Y2 Y3 Y4 yrow g.name (.slice X1 g.nodes.length x1) (.slice X2 g.ins.length x2) (.slice X3 g.outs.length x3) (.slice X4 g.inits.length x4) g.nodes g.ins g.outs g.inits lab' := by
  have hn : ∀ {α : Type} {ρ : Rep α} {e : TypeId} {i : Nat} {v : Value} {l : List α}, i ≠ 5 → OL ρ e lab i wa wE.heap.size v l → OL ρ e (fun k => if k = xb ∨ k = yb then 5 else lab k) i wY lo v l := by
    intro α ρ e i v l hi ho
    have hl := ho.lt
    refine ho.relabel hlo (fun k hk => ?_) (fun k h1 h2 h3 => ?_) (fun k h1 h2 => kb.block k h2) kb.size
    · have := hl k hk
      rw [if_neg (by omega)]; exact ho.mark k hk
    · rw [if_neg (by omega)]; exact h3
  refine ⟨_, hb, rx, ry, hn (by decide) hg.on, hn (by decide) hg.oi, hn (by decide) hg.oo, hn (by decide) hg.ot, fun k hk => ?_, fun k hk => ?_, ?_, ?_, by omega, by omega, by omega, by omega, ?_⟩
  · rw [if_neg (by omega)]; exact hg.fr k (by omega)
  · rw [if_neg (by omega)]; exact hg.low k (by omega)
  · rw [if_pos (.inl rfl)]
  · rw [if_pos (.inr rfl)]
  · refine hh.at_.keep (fun k hk => ky k hk.2) (fun k hk => ⟨?_, by have := hk.1; omega, by have := hk.2; omega⟩)
    have h1 := hk.1
    have h2 := hk.2
    dsimp only
    rw [if_neg (by omega)]
    exact hg.fr k (by omega)
theorem JX.at_ {lo : Nat} {w wr : World} {xb yb : Nat} {h : Gr} {C1 C2 C3 C4 : Option Addr} {yrow : Obj} {name : ByteArray} {ln : List Nd} {li lo_ : List Vl} {lt : List Nm} {lab : Nat → Nat} {X1 X2 X3 X4 : Option Addr} {n1 n2 n3 n4 x1 x2 x3 x4 : Nat}
    (j : JX lo w wr xb yb h C1 C2 C3 C4 yrow name (.slice X1 n1 x1) (.slice X2 n2 x2) (.slice X3 n3 x3) (.slice X4 n4 x4) ln li lo_ lt lab) : GrAt ⟨name, ln, li, lo_, lt⟩ wr (Since lo wr) X1 n1 X2 n2 X3 n3 X4 n4 :=
  ⟨isSlc_at (j.on.isSlc (by decide)), isSlc_at (j.oi.isSlc (by decide)), isSlc_at (j.oo.isSlc (by decide)), isSlc_at (j.ot.isSlc (by decide))⟩
/-- Sizes of what is told. -/
theorem told_sizes {g : Gr} (h : toldB g = true) : g.nodes.length ≤ 1000 ∧ g.ins.length + g.inits.length + g.nodes.length ≤ 3000 ∧ g.outs.length ≤ 3000 ∧ g.name.size ≤ 100 := by
  simp only [toldB, fewG, fewB, Bool.and_eq_true, decide_eq_true_eq] at h
  omega
theorem told_copOk {g : Gr} (h : toldB g = true) : CopOk g := by
  obtain ⟨z1, z2, z3, _⟩ := told_sizes h
  simp only [toldB, Bool.and_eq_true, List.all_eq_true] at h
  obtain ⟨⟨⟨⟨_, t2⟩, t3⟩, t4⟩, t5⟩ := h
  refine ⟨by omega, by omega, by omega, by omega, fun x hx => ?_, fun v hv => ?_, fun v hv => ?_, fun t ht => ?_⟩
  · have b := nodeT_ok (t2 x hx)
    have b1 := b.ins
    have b2 := b.attrs
    refine ⟨by omega, by omega, fun a ha => ?_⟩
    have hT := t2 x hx
    simp only [nodeT, Bool.and_eq_true, List.all_eq_true] at hT
    have c := attrT_ok (hT.2 a ha)
    have c1 := c.dims
    have c2 := c.data
    have c3 := c.ints
    exact ⟨by omega, by omega, by omega⟩
  · have := (valT_ok (t3 v hv)).dims; omega
  · have := (valT_ok (t4 v hv)).dims; omega
  · have hT := t5 t ht
    simp only [initT, Bool.and_eq_true, beq_iff_eq, decide_eq_true_eq] at hT
    have c := tchk_sz hT.1
    exact ⟨by omega, by omega⟩
theorem told_add {g h : Gr} (hg : toldB g = true) (hh : toldB h = true) : toldB (addG g h) = fewG (addG g h) := by
  simp only [toldB, Bool.and_eq_true] at hg hh
  obtain ⟨⟨⟨⟨_, g2⟩, g3⟩, g4⟩, g5⟩ := hg
  obtain ⟨⟨⟨⟨_, h2⟩, h3⟩, h4⟩, h5⟩ := hh
  simp only [toldB, addG, List.all_append, g2, g3, g4, g5, h2, h3, h4, h5, Bool.and_true]

set_option maxRecDepth 100000 in
set_option maxHeartbeats 6400000 in
theorem joins_law (g h : Gr) (w : World) (Z : Nat → Prop) (A1 A2 A3 A4 B1 B2 B3 B4 : Option Addr) (a1 a2 a3 a4 b1 b2 b3 b4 : Nat) (hatg : GrAt g w Z A1 g.nodes.length A2 g.ins.length A3 g.outs.length A4 g.inits.length) (hath : GrAt h w Z B1 h.nodes.length B2 h.ins.length B3 h.outs.length B4 h.inits.length)
    (hZ : ∀ k, Z k → k < w.heap.size) (hig : GrIn g) (hih : GrIn h) (hsg : GrSz g) (hsh : GrSz h) :
    Calls Try.prog 6 #[.agg #[.string g.name, .slice A1 g.nodes.length a1, .slice A2 g.ins.length a2, .slice A3 g.outs.length a3, .slice A4 g.inits.length a4], .agg #[.string h.name, .slice B1 h.nodes.length b1, .slice B2 h.ins.length b2, .slice B3 h.outs.length b3, .slice B4 h.inits.length b4]] w fun e w' => e = .returned (.bool true) ∧ Below w.heap.size w w' := by
  obtain ⟨i67, hi67, hz670, hz671, hz672⟩ := info_parts Try.info67
  have HI67 := Lib.hid (show _ ∧ _ ∧ _ ∧ _ from ⟨hi67, hz670, hz671, hz672⟩)
  obtain ⟨i69, hi69, hz690, hz691, hz692⟩ := info_parts Try.info69
  have HI69 := Lib.hid (show _ ∧ _ ∧ _ ∧ _ from ⟨hi69, hz690, hz691, hz692⟩)
  obtain ⟨i81, hi81, hz810, hz811, hz812⟩ := info_parts Try.info81
  have HI81 := Lib.hid (show _ ∧ _ ∧ _ ∧ _ from ⟨hi81, hz810, hz811, hz812⟩)
  clear hi67 hz670 hz671 hz672 hi69 hz690 hz691 hz692 hi81 hz810 hz811 hz812
  have hb0 : Below w.heap.size w ((w.alloc (.cells #[.string g.name, .slice A1 g.nodes.length a1, .slice A2 g.ins.length a2, .slice A3 g.outs.length a3, .slice A4 g.inits.length a4] 34)).alloc (.cells #[.string h.name, .slice B1 h.nodes.length b1, .slice B2 h.ins.length b2, .slice B3 h.outs.length b3, .slice B4 h.inits.length b4] 34)) := ((Below.refl _ _).alloc (Nat.le_refl _) _).alloc (by simp) _
  have hg0 := (Below.heap_alloc (w.alloc (.cells #[.string g.name, .slice A1 g.nodes.length a1, .slice A2 g.ins.length a2, .slice A3 g.outs.length a3, .slice A4 g.inits.length a4] 34)) (.cells #[.string h.name, .slice B1 h.nodes.length b1, .slice B2 h.ins.length b2, .slice B3 h.outs.length b3, .slice B4 h.inits.length b4] 34) w.heap.size (by simp)).trans (heap_alloc_new w (.cells #[.string g.name, .slice A1 g.nodes.length a1, .slice A2 g.ins.length a2, .slice A3 g.outs.length a3, .slice A4 g.inits.length a4] 34))
  have hh0 := heap_second w (.cells #[.string g.name, .slice A1 g.nodes.length a1, .slice A2 g.ins.length a2, .slice A3 g.outs.length a3, .slice A4 g.inits.length a4] 34) (.cells #[.string h.name, .slice B1 h.nodes.length b1, .slice B2 h.ins.length b2, .slice B3 h.outs.length b3, .slice B4 h.inits.length b4] 34) (w.heap.size + 1) rfl
  have z0 : w.heap.size + 1 < ((w.alloc (.cells #[.string g.name, .slice A1 g.nodes.length a1, .slice A2 g.ins.length a2, .slice A3 g.outs.length a3, .slice A4 g.inits.length a4] 34)).alloc (.cells #[.string h.name, .slice B1 h.nodes.length b1, .slice B2 h.ins.length b2, .slice B3 h.outs.length b3, .slice B4 h.inits.length b4] 34)).heap.size := by simp
  have kp : ∀ k, Z k → ((w.alloc (.cells #[.string g.name, .slice A1 g.nodes.length a1, .slice A2 g.ins.length a2, .slice A3 g.outs.length a3, .slice A4 g.inits.length a4] 34)).alloc (.cells #[.string h.name, .slice B1 h.nodes.length b1, .slice B2 h.ins.length b2, .slice B3 h.outs.length b3, .slice B4 h.inits.length b4] 34)).heap[k]? = w.heap[k]? := fun k hk => hb0.block k (hZ k hk)
  have Hag := Lib.hid (hatg.keep (w' := ((w.alloc (.cells #[.string g.name, .slice A1 g.nodes.length a1, .slice A2 g.ins.length a2, .slice A3 g.outs.length a3, .slice A4 g.inits.length a4] 34)).alloc (.cells #[.string h.name, .slice B1 h.nodes.length b1, .slice B2 h.ins.length b2, .slice B3 h.outs.length b3, .slice B4 h.inits.length b4] 34))) (Z' := Since 0 ((w.alloc (.cells #[.string g.name, .slice A1 g.nodes.length a1, .slice A2 g.ins.length a2, .slice A3 g.outs.length a3, .slice A4 g.inits.length a4] 34)).alloc (.cells #[.string h.name, .slice B1 h.nodes.length b1, .slice B2 h.ins.length b2, .slice B3 h.outs.length b3, .slice B4 h.inits.length b4] 34))) kp (fun k hk => ⟨Nat.zero_le _, Nat.lt_of_lt_of_le (hZ k hk) hb0.size⟩))
  have Hah := Lib.hid (hath.keep (w' := ((w.alloc (.cells #[.string g.name, .slice A1 g.nodes.length a1, .slice A2 g.ins.length a2, .slice A3 g.outs.length a3, .slice A4 g.inits.length a4] 34)).alloc (.cells #[.string h.name, .slice B1 h.nodes.length b1, .slice B2 h.ins.length b2, .slice B3 h.outs.length b3, .slice B4 h.inits.length b4] 34))) (Z' := Since 0 ((w.alloc (.cells #[.string g.name, .slice A1 g.nodes.length a1, .slice A2 g.ins.length a2, .slice A3 g.outs.length a3, .slice A4 g.inits.length a4] 34)).alloc (.cells #[.string h.name, .slice B1 h.nodes.length b1, .slice B2 h.ins.length b2, .slice B3 h.outs.length b3, .slice B4 h.inits.length b4] 34))) kp (fun k hk => ⟨Nat.zero_le _, Nat.lt_of_lt_of_le (hZ k hk) hb0.size⟩))
  have HB0 := Lib.hid hb0
  have HG0 := Lib.hid hg0
  have HH0 := Lib.hid hh0
  have HIg := Lib.hid hig
  have HIh := Lib.hid hih
  have HSg := Lib.hid hsg
  have HSh := Lib.hid hsh
  have HL := Lib.hid live_any
  have HWg := Lib.hid (tell_ways g)
  have HWh := Lib.hid (tell_ways h)
  have xx0 := cell_of_row _ _ 0 _ 34 (0, 0) hg0
  have xx1 := cell_of_row _ _ 1 _ 34 (0, 0) hg0
  have xx2 := cell_of_row _ _ 2 _ 34 (0, 0) hg0
  have xx3 := cell_of_row _ _ 3 _ 34 (0, 0) hg0
  have xx4 := cell_of_row _ _ 4 _ 34 (0, 0) hg0
  simp only [List.getElem?_toArray, List.getElem?_cons_zero, List.getElem?_cons_succ] at xx0 xx1 xx2 xx3 xx4
  clear hb0 hg0 hh0 kp hatg hath hZ hig hih hsg hsh
  go_enter Try.func6, Try.ntmps6
  go_wp2_with fail
  generalize ((w.alloc (.cells #[.string g.name, .slice A1 g.nodes.length a1, .slice A2 g.ins.length a2, .slice A3 g.outs.length a3, .slice A4 g.inits.length a4] 34)).alloc (.cells #[.string h.name, .slice B1 h.nodes.length b1, .slice B2 h.ins.length b2, .slice B3 h.outs.length b3, .slice B4 h.inits.length b4] 34)) = w0 at Hag Hah HB0 HG0 HH0 z0 xx0 xx1 xx2 xx3 xx4 ⊢
  refine (encode_any g w0 (Since 0 w0) A1 A2 A3 A4 _ a1 _ a2 _ a3 _ a4 Hag.out.nodes Hag.out.ins Hag.out.outs Hag.out.inits (fun k hk => hk.2) HSg.out).mono ?_
  rintro e w1 ⟨rfl, hb1⟩
  have z1 := hb1.size
  have hh1 := (hb1.block (w.heap.size + 1) (by omega)).trans HH0.out
  have uu0 := cell_of_row _ _ 0 _ 34 (0, 0) hh1
  have uu1 := cell_of_row _ _ 1 _ 34 (0, 0) hh1
  have uu2 := cell_of_row _ _ 2 _ 34 (0, 0) hh1
  have uu3 := cell_of_row _ _ 3 _ 34 (0, 0) hh1
  have uu4 := cell_of_row _ _ 4 _ 34 (0, 0) hh1
  simp only [List.getElem?_toArray, List.getElem?_cons_zero, List.getElem?_cons_succ] at uu0 uu1 uu2 uu3 uu4
  have HB1 := Lib.hid (HB0.out.trans (hb1.mono HB0.out.size))
  have HL1 := Lib.hid hb1
  have HG1 := Lib.hid ((hb1.block w.heap.size (by omega)).trans HG0.out)
  have HH1 := Lib.hid hh1
  have Hag1 := Lib.hid (Hag.out.later hb1 (Nat.le_refl _))
  have Hah1 := Lib.hid (Hah.out.later hb1 (Nat.le_refl _))
  clear hb1 hh1 xx0 xx1 xx2 xx3 xx4
  go_wp2_with fail
  refine (encode_any h w1 (Since 0 w1) B1 B2 B3 B4 _ b1 _ b2 _ b3 _ b4 Hah1.out.nodes Hah1.out.ins Hah1.out.outs Hah1.out.inits (fun k hk => hk.2) HSh.out).mono ?_
  rintro e w2 ⟨rfl, hb2⟩
  have z2 := hb2.size
  have hg2 := (hb2.block w.heap.size (by omega)).trans HG1.out
  have hh2 := (hb2.block (w.heap.size + 1) (by omega)).trans HH1.out
  have xx0 := cell_of_row _ _ 0 _ 34 (0, 0) hg2
  have xx1 := cell_of_row _ _ 1 _ 34 (0, 0) hg2
  have xx2 := cell_of_row _ _ 2 _ 34 (0, 0) hg2
  have xx3 := cell_of_row _ _ 3 _ 34 (0, 0) hg2
  have xx4 := cell_of_row _ _ 4 _ 34 (0, 0) hg2
  have vv0 := cell_of_row _ _ 0 _ 34 (0, 0) hh2
  have vv1 := cell_of_row _ _ 1 _ 34 (0, 0) hh2
  have vv2 := cell_of_row _ _ 2 _ 34 (0, 0) hh2
  have vv3 := cell_of_row _ _ 3 _ 34 (0, 0) hh2
  have vv4 := cell_of_row _ _ 4 _ 34 (0, 0) hh2
  simp only [List.getElem?_toArray, List.getElem?_cons_zero, List.getElem?_cons_succ] at xx0 xx1 xx2 xx3 xx4 vv0 vv1 vv2 vv3 vv4
  have HB2 := Lib.hid (HB1.out.trans (hb2.mono HB1.out.size))
  have HL2 := Lib.hid (HL1.out.trans (hb2.mono HL1.out.size))
  have HG2 := Lib.hid hg2
  have HH2 := Lib.hid hh2
  have Hag2 := Lib.hid (Hag1.out.later hb2 (Nat.le_refl _))
  have Hah2 := Lib.hid (Hah1.out.later hb2 (Nat.le_refl _))
  clear hb2 hg2 hh2 uu0 uu1 uu2 uu3 uu4 Hag Hah Hag1 Hah1 HG0 HH0 HG1 HH1
  rcases HWg.out with ⟨htg, hsg, heg⟩ | ⟨htg, hsg, heg⟩ | ⟨htg, hsg, heg⟩
  · rw [hsg, heg]
    clear htg hsg heg
    generalize encS h = T
    generalize encErr h = f
    go_wp2_with fail
    refine (HL.out _).mono ?_
    rintro e w3 ⟨rfl, hb3⟩
    have HB3 := Lib.hid (HB2.out.trans (hb3.mono HB2.out.size))
    clear hb3
    go_wp2
    go_ret
    exact ⟨rfl, HB3.out⟩
  · rw [hsg, heg]
    clear htg hsg heg
    generalize encS h = T
    generalize encErr h = f
    go_wp2_with fail
    refine (HL.out _).mono ?_
    rintro e w3 ⟨rfl, hb3⟩
    have HB3 := Lib.hid (HB2.out.trans (hb3.mono HB2.out.size))
    clear hb3
    go_wp2
    go_ret
    exact ⟨rfl, HB3.out⟩
  rw [heg]
  rcases HWh.out with ⟨hth, hsh, heh⟩ | ⟨hth, hsh, heh⟩ | ⟨hth, hsh, heh⟩
  · rw [hsh, heh]
    clear htg hsg heg hth hsh heh
    generalize encS g = S
    go_wp2_with fail
    refine (HL.out _).mono ?_
    rintro e w3 ⟨rfl, hb3⟩
    have HB3 := Lib.hid (HB2.out.trans (hb3.mono HB2.out.size))
    clear hb3
    go_wp2
    go_ret
    exact ⟨rfl, HB3.out⟩
  · rw [hsh, heh]
    clear htg hsg heg hth hsh heh
    generalize encS g = S
    go_wp2_with fail
    refine (HL.out _).mono ?_
    rintro e w3 ⟨rfl, hb3⟩
    have HB3 := Lib.hid (HB2.out.trans (hb3.mono HB2.out.size))
    clear hb3
    go_wp2
    go_ret
    exact ⟨rfl, HB3.out⟩
  rw [heh]
  have HSz := Lib.hid (show g.nodes.length + h.nodes.length ≤ 2000 ∧ g.ins.length + h.ins.length ≤ 6000 ∧ g.outs.length + h.outs.length ≤ 6000 ∧ g.inits.length + h.inits.length ≤ 6000 from by obtain ⟨_, _, _, _⟩ := told_sizes htg; obtain ⟨_, _, _, _⟩ := told_sizes hth; omega)
  have sz1 := encS_size hsg
  have sz2 := encS_size hsh
  have HTg := Lib.hid htg
  have HTh := Lib.hid hth
  have HDj := Lib.hid (fun hz => decode_joined HIg.out HIh.out hsg hsh hz)
  clear htg hsg heg hth hsh heh
  generalize encS g = S at sz1 HDj ⊢
  generalize encS h = T at sz2 HDj ⊢
  by_cases hnm : h.name = ⟨#[]⟩
  · have hn2 : h.name.toList.isEmpty = true := by rw [hnm]; kernel_rfl
    clear hnm
    go_wp2_with fail
    refine (HL.out _).mono ?_
    rintro e w3 ⟨rfl, hb3⟩
    have HB3 := Lib.hid (HB2.out.trans (hb3.mono HB2.out.size))
    clear hb3
    go_wp2
    go_ret
    exact ⟨rfl, HB3.out⟩
  have hn2 : h.name.toList.isEmpty = false := by
    cases hq : h.name.toList with
    | nil => exact absurd (text_nil hq) hnm
    | cons x l => rfl
  clear hnm
  by_cases hz : S.size + T.size ≤ 16777216
  rotate_left
  · go_wp2_with fail
    refine (HL.out _).mono ?_
    rintro e w3 ⟨rfl, hb3⟩
    have HB3 := Lib.hid (HB2.out.trans (hb3.mono HB2.out.size))
    clear hb3
    go_wp2
    go_ret
    exact ⟨rfl, HB3.out⟩
  have HDz := Lib.hid (HDj.out hz)
  clear HDj
  obtain ⟨X, hX⟩ : ∃ X, X = addG g h := ⟨_, rfl⟩
  have HX := Lib.hid hX
  rw [← hX] at HDz
  have hcat : ¬ 9223372036854775807 < S.size + T.size := by omega
  have hcz : (S ++ T).size ≤ 140737488351232 := by rw [size_app]; omega
  have HCg := Lib.hid (copyG_any g w2 (Since 0 w2) A1 A2 A3 A4 _ a1 _ a2 _ a3 _ a4 Hag2.out.nodes Hag2.out.ins Hag2.out.outs Hag2.out.inits (fun k hk => hk.2) (told_copOk HTg.out))
  clear hX
  go_wp2_with fail
  refine HCg.out.mono ?_
  rintro e wa ⟨X1, x1, X2, x2, X3, x3, X4, x4, lab, rfl, hgo, hba⟩
  have za := hba.size
  have hal : Below wa.heap.size wa (wa.alloc (.cells #[.string g.name, .slice X1 g.nodes.length x1, .slice X2 g.ins.length x2, .slice X3 g.outs.length x3, .slice X4 g.inits.length x4] 34)) := (Below.refl _ _).alloc (Nat.le_refl _) _
  have hbX := hba.trans (hal.mono hba.size)
  have hhX := (hbX.block (w.heap.size + 1) (by omega)).trans HH2.out
  have zX : (wa.alloc (.cells #[.string g.name, .slice X1 g.nodes.length x1, .slice X2 g.ins.length x2, .slice X3 g.outs.length x3, .slice X4 g.inits.length x4] 34)).heap.size = wa.heap.size + 1 := by simp
  have zX1 := Nat.le_of_eq zX
  have zX2 := Nat.le_of_eq zX.symm
  have hahX := Hah2.out.later hbX (Nat.le_refl _)
  have HCh := Lib.hid (copyG_any h (wa.alloc (.cells #[.string g.name, .slice X1 g.nodes.length x1, .slice X2 g.ins.length x2, .slice X3 g.outs.length x3, .slice X4 g.inits.length x4] 34)) (Since 0 (wa.alloc (.cells #[.string g.name, .slice X1 g.nodes.length x1, .slice X2 g.ins.length x2, .slice X3 g.outs.length x3, .slice X4 g.inits.length x4] 34))) B1 B2 B3 B4 _ b1 _ b2 _ b3 _ b4 hahX.nodes hahX.ins hahX.outs hahX.inits (fun k hk => hk.2) (told_copOk HTh.out))
  have HRX := Lib.hid (heap_alloc_new wa (.cells #[.string g.name, .slice X1 g.nodes.length x1, .slice X2 g.ins.length x2, .slice X3 g.outs.length x3, .slice X4 g.inits.length x4] 34))
  have HZX := Lib.hid zX
  have Hal := Lib.hid hal
  have HbX := Lib.hid hbX
  have Hgo := Lib.hid hgo
  have uu0 := cell_of_row _ _ 0 _ 34 (0, 0) hhX
  have uu1 := cell_of_row _ _ 1 _ 34 (0, 0) hhX
  have uu2 := cell_of_row _ _ 2 _ 34 (0, 0) hhX
  have uu3 := cell_of_row _ _ 3 _ 34 (0, 0) hhX
  have uu4 := cell_of_row _ _ 4 _ 34 (0, 0) hhX
  simp only [List.getElem?_toArray, List.getElem?_cons_zero, List.getElem?_cons_succ] at uu0 uu1 uu2 uu3 uu4
  clear hba hal hbX hhX hahX zX hgo xx0 xx1 xx2 xx3 xx4 vv0 vv1 vv2 vv3 vv4
  go_wp2_with fail
  generalize (wa.alloc (.cells #[.string g.name, .slice X1 g.nodes.length x1, .slice X2 g.ins.length x2, .slice X3 g.outs.length x3, .slice X4 g.inits.length x4] 34)) = wX at zX1 zX2 HCh HRX HZX Hal HbX uu0 uu1 uu2 uu3 uu4 ⊢
  refine HCh.out.mono ?_
  rintro e wb ⟨Y1, y1, Y2, y2, Y3, y3, Y4, y4, labh, rfl, hho, hbb⟩
  have zb := hbb.size
  have hal : Below wb.heap.size wb (wb.alloc (.cells #[.string h.name, .slice Y1 h.nodes.length y1, .slice Y2 h.ins.length y2, .slice Y3 h.outs.length y3, .slice Y4 h.inits.length y4] 34)) := (Below.refl _ _).alloc (Nat.le_refl _) _
  have hbY := hbb.trans (hal.mono hbb.size)
  have zY : (wb.alloc (.cells #[.string h.name, .slice Y1 h.nodes.length y1, .slice Y2 h.ins.length y2, .slice Y3 h.outs.length y3, .slice Y4 h.inits.length y4] 34)).heap.size = wb.heap.size + 1 := by simp
  obtain ⟨labj, hj⟩ := jx_start (w0 := w2) (wE := w2) (lo := w2.heap.size) (wY := (wb.alloc (.cells #[.string h.name, .slice Y1 h.nodes.length y1, .slice Y2 h.ins.length y2, .slice Y3 h.outs.length y3, .slice Y4 h.inits.length y4] 34))) (yrow := .cells #[.string h.name, .slice Y1 h.nodes.length y1, .slice Y2 h.ins.length y2, .slice Y3 h.outs.length y3, .slice Y4 h.inits.length y4] 34 (0, 0)) Hgo.out hho (Nat.le_refl _) rfl HZX.out rfl zY zb za (Hal.out.trans (hbY.mono (by omega))) (fun k hk => hal.block k hk) (HbX.out.trans (hbY.mono (by omega))) ((hbY.block wa.heap.size (by omega)).trans HRX.out) (heap_alloc_new wb (.cells #[.string h.name, .slice Y1 h.nodes.length y1, .slice Y2 h.ins.length y2, .slice Y3 h.outs.length y3, .slice Y4 h.inits.length y4] 34))
  have HJ := Lib.hid hj
  have zzx : w2.heap.size ≤ wa.heap.size := za
  have hne1 : ¬ wa.heap.size = wb.heap.size := by omega
  have hne2 : ¬ wb.heap.size = wa.heap.size := by omega
  clear hho hbb hal hbY zY hj uu0 uu1 uu2 uu3 uu4 Hgo HRX HZX Hal HbX HCh HCg
  go_upto_region 7 with (fail)
  generalize (wb.alloc (.cells #[.string h.name, .slice Y1 h.nodes.length y1, .slice Y2 h.ins.length y2, .slice Y3 h.outs.length y3, .slice Y4 h.inits.length y4] 34)) = wj at HJ ⊢
  generalize wb.heap.size = yb at HJ hne1 hne2 ⊢
  generalize wa.heap.size = xb at HJ hne1 hne2 zzx ⊢
  have hxr := HJ.out.row
  have hyr := HJ.out.yr
  have uu0 := cell_of_row _ _ 0 _ 34 (0, 0) hxr
  have uu1 := cell_of_row _ _ 1 _ 34 (0, 0) hxr
  have uu2 := cell_of_row _ _ 2 _ 34 (0, 0) hxr
  have uu3 := cell_of_row _ _ 3 _ 34 (0, 0) hxr
  have uu4 := cell_of_row _ _ 4 _ 34 (0, 0) hxr
  have vv0 := cell_of_row _ _ 0 _ 34 (0, 0) hyr
  have vv1 := cell_of_row _ _ 1 _ 34 (0, 0) hyr
  have vv2 := cell_of_row _ _ 2 _ 34 (0, 0) hyr
  have vv3 := cell_of_row _ _ 3 _ 34 (0, 0) hyr
  have vv4 := cell_of_row _ _ 4 _ 34 (0, 0) hyr
  simp only [List.getElem?_toArray, List.getElem?_cons_zero, List.getElem?_cons_succ] at uu0 uu1 uu2 uu3 uu4 vv0 vv1 vv2 vv3 vv4
  have hfz : ∀ i, wj.frozen? ⟨xb, i, none⟩ = false := fun i => by simp [World.frozen?, hxr]
  have fz0 := hfz 0
  have fz1 := hfz 1
  have fz2 := hfz 2
  have fz3 := hfz 3
  have fz4 := hfz 4
  clear hfz hxr hyr
  go_upto_region 8 with (fail)
  have HJ0 := Lib.hid (HJ.out.setn zzx h.name)
  clear uu0 uu1 uu2 uu3 uu4 vv0 vv1 vv2 vv3 vv4 fz0 fz1 fz2 fz3 fz4
  generalize wj.setCell ⟨xb, 0, none⟩ (.string h.name) = wj0 at HJ0 ⊢
  have hxr := HJ0.out.row
  have hyr := HJ0.out.yr
  have uu0 := cell_of_row _ _ 0 _ 34 (0, 0) hxr
  have uu1 := cell_of_row _ _ 1 _ 34 (0, 0) hxr
  have uu2 := cell_of_row _ _ 2 _ 34 (0, 0) hxr
  have uu3 := cell_of_row _ _ 3 _ 34 (0, 0) hxr
  have uu4 := cell_of_row _ _ 4 _ 34 (0, 0) hxr
  have vv0 := cell_of_row _ _ 0 _ 34 (0, 0) hyr
  have vv1 := cell_of_row _ _ 1 _ 34 (0, 0) hyr
  have vv2 := cell_of_row _ _ 2 _ 34 (0, 0) hyr
  have vv3 := cell_of_row _ _ 3 _ 34 (0, 0) hyr
  have vv4 := cell_of_row _ _ 4 _ 34 (0, 0) hyr
  simp only [List.getElem?_toArray, List.getElem?_cons_zero, List.getElem?_cons_succ] at uu0 uu1 uu2 uu3 uu4 vv0 vv1 vv2 vv3 vv4
  have hfz : ∀ i, wj0.frozen? ⟨xb, i, none⟩ = false := fun i => by simp [World.frozen?, hxr]
  have fz0 := hfz 0
  have fz1 := hfz 1
  have fz2 := hfz 2
  have fz3 := hfz 3
  have fz4 := hfz 4
  clear hfz hxr hyr
  go_upto_region 9 with (at_builtin; refine wpList_append_m wj0 repNd rfl (.tmp 51) (.tmp 53) 30 rfl 67 i67 _ 96 Try.underlying30 HI67.out.1 HI67.out.2.1 HI67.out.2.2.1 HI67.out.2.2.2 rfl (by decide) labj 1 (by decide) w2.heap.size (.slice X1 g.nodes.length x1) g.nodes rfl HJ0.out.on HJ0.out.fr Y1 _ y1 h.nodes rfl HJ0.out.y.nodes (by have := HSz.out; omega) (by have := HSz.out; unfold maxLen; omega) HJ0.out.los ?_; intro v' wz1 lab1 hoz hgz; obtain ⟨V1, vn1, vc1, hvw⟩ : ∃ A m c, v' = .slice A m c := (by obtain ⟨A, c, e⟩ := OL.form hoz; exact ⟨A, _, c, e⟩); subst hvw; have hk := HJ0.out.block (by decide) (by decide) hgz; have gx := hk.1.trans HJ0.out.row; have gy := hk.2.1.trans HJ0.out.yr; have q1 : wz1.cell? ⟨xb, 1, none⟩ = some (.slice X1 g.nodes.length x1) := cell_of_row _ _ 1 _ 34 (0, 0) gx; have qf1 : wz1.frozen? ⟨xb, 1, none⟩ = false := (by simp [World.frozen?, gx]); have HJ1 := Lib.hid (HJ0.out.more1 zzx hgz hoz); clear hoz hgz hk gx gy)
  clear uu0 uu1 uu2 uu3 uu4 vv0 vv1 vv2 vv3 vv4 fz0 fz1 fz2 fz3 fz4
  clear q1 qf1
  generalize wz1.setCell ⟨xb, 1, none⟩ (.slice V1 vn1 vc1) = wj1 at HJ1 ⊢
  have hxr := HJ1.out.row
  have hyr := HJ1.out.yr
  have uu0 := cell_of_row _ _ 0 _ 34 (0, 0) hxr
  have uu1 := cell_of_row _ _ 1 _ 34 (0, 0) hxr
  have uu2 := cell_of_row _ _ 2 _ 34 (0, 0) hxr
  have uu3 := cell_of_row _ _ 3 _ 34 (0, 0) hxr
  have uu4 := cell_of_row _ _ 4 _ 34 (0, 0) hxr
  have vv0 := cell_of_row _ _ 0 _ 34 (0, 0) hyr
  have vv1 := cell_of_row _ _ 1 _ 34 (0, 0) hyr
  have vv2 := cell_of_row _ _ 2 _ 34 (0, 0) hyr
  have vv3 := cell_of_row _ _ 3 _ 34 (0, 0) hyr
  have vv4 := cell_of_row _ _ 4 _ 34 (0, 0) hyr
  simp only [List.getElem?_toArray, List.getElem?_cons_zero, List.getElem?_cons_succ] at uu0 uu1 uu2 uu3 uu4 vv0 vv1 vv2 vv3 vv4
  have hfz : ∀ i, wj1.frozen? ⟨xb, i, none⟩ = false := fun i => by simp [World.frozen?, hxr]
  have fz0 := hfz 0
  have fz1 := hfz 1
  have fz2 := hfz 2
  have fz3 := hfz 3
  have fz4 := hfz 4
  clear hfz hxr hyr
  go_upto_region 10 with (at_builtin; refine wpList_append_m wj1 repVl rfl (.tmp 57) (.tmp 59) 31 rfl 81 i81 _ 48 Try.underlying31 HI81.out.1 HI81.out.2.1 HI81.out.2.2.1 HI81.out.2.2.2 rfl (by decide) lab1 2 (by decide) w2.heap.size (.slice X2 g.ins.length x2) g.ins rfl HJ1.out.oi HJ1.out.fr Y2 _ y2 h.ins rfl HJ1.out.y.ins (by have := HSz.out; omega) (by have := HSz.out; unfold maxLen; omega) HJ1.out.los ?_; intro v' wz2 lab2 hoz hgz; obtain ⟨V2, vn2, vc2, hvw⟩ : ∃ A m c, v' = .slice A m c := (by obtain ⟨A, c, e⟩ := OL.form hoz; exact ⟨A, _, c, e⟩); subst hvw; have hk := HJ1.out.block (by decide) (by decide) hgz; have gx := hk.1.trans HJ1.out.row; have gy := hk.2.1.trans HJ1.out.yr; have q2 : wz2.cell? ⟨xb, 2, none⟩ = some (.slice X2 g.ins.length x2) := cell_of_row _ _ 2 _ 34 (0, 0) gx; have qf2 : wz2.frozen? ⟨xb, 2, none⟩ = false := (by simp [World.frozen?, gx]); have HJ2 := Lib.hid (HJ1.out.more2 zzx hgz hoz); clear hoz hgz hk gx gy)
  clear uu0 uu1 uu2 uu3 uu4 vv0 vv1 vv2 vv3 vv4 fz0 fz1 fz2 fz3 fz4
  clear q2 qf2
  generalize wz2.setCell ⟨xb, 2, none⟩ (.slice V2 vn2 vc2) = wj2 at HJ2 ⊢
  have hxr := HJ2.out.row
  have hyr := HJ2.out.yr
  have uu0 := cell_of_row _ _ 0 _ 34 (0, 0) hxr
  have uu1 := cell_of_row _ _ 1 _ 34 (0, 0) hxr
  have uu2 := cell_of_row _ _ 2 _ 34 (0, 0) hxr
  have uu3 := cell_of_row _ _ 3 _ 34 (0, 0) hxr
  have uu4 := cell_of_row _ _ 4 _ 34 (0, 0) hxr
  have vv0 := cell_of_row _ _ 0 _ 34 (0, 0) hyr
  have vv1 := cell_of_row _ _ 1 _ 34 (0, 0) hyr
  have vv2 := cell_of_row _ _ 2 _ 34 (0, 0) hyr
  have vv3 := cell_of_row _ _ 3 _ 34 (0, 0) hyr
  have vv4 := cell_of_row _ _ 4 _ 34 (0, 0) hyr
  simp only [List.getElem?_toArray, List.getElem?_cons_zero, List.getElem?_cons_succ] at uu0 uu1 uu2 uu3 uu4 vv0 vv1 vv2 vv3 vv4
  have hfz : ∀ i, wj2.frozen? ⟨xb, i, none⟩ = false := fun i => by simp [World.frozen?, hxr]
  have fz0 := hfz 0
  have fz1 := hfz 1
  have fz2 := hfz 2
  have fz3 := hfz 3
  have fz4 := hfz 4
  clear hfz hxr hyr
  go_upto_region 11 with (at_builtin; refine wpList_append_m wj2 repVl rfl (.tmp 63) (.tmp 65) 31 rfl 81 i81 _ 48 Try.underlying31 HI81.out.1 HI81.out.2.1 HI81.out.2.2.1 HI81.out.2.2.2 rfl (by decide) lab2 3 (by decide) w2.heap.size (.slice X3 g.outs.length x3) g.outs rfl HJ2.out.oo HJ2.out.fr Y3 _ y3 h.outs rfl HJ2.out.y.outs (by have := HSz.out; omega) (by have := HSz.out; unfold maxLen; omega) HJ2.out.los ?_; intro v' wz3 lab3 hoz hgz; obtain ⟨V3, vn3, vc3, hvw⟩ : ∃ A m c, v' = .slice A m c := (by obtain ⟨A, c, e⟩ := OL.form hoz; exact ⟨A, _, c, e⟩); subst hvw; have hk := HJ2.out.block (by decide) (by decide) hgz; have gx := hk.1.trans HJ2.out.row; have gy := hk.2.1.trans HJ2.out.yr; have q3 : wz3.cell? ⟨xb, 3, none⟩ = some (.slice X3 g.outs.length x3) := cell_of_row _ _ 3 _ 34 (0, 0) gx; have qf3 : wz3.frozen? ⟨xb, 3, none⟩ = false := (by simp [World.frozen?, gx]); have HJ3 := Lib.hid (HJ2.out.more3 zzx hgz hoz); clear hoz hgz hk gx gy)
  clear uu0 uu1 uu2 uu3 uu4 vv0 vv1 vv2 vv3 vv4 fz0 fz1 fz2 fz3 fz4
  clear q3 qf3
  generalize wz3.setCell ⟨xb, 3, none⟩ (.slice V3 vn3 vc3) = wj3 at HJ3 ⊢
  have hxr := HJ3.out.row
  have hyr := HJ3.out.yr
  have uu0 := cell_of_row _ _ 0 _ 34 (0, 0) hxr
  have uu1 := cell_of_row _ _ 1 _ 34 (0, 0) hxr
  have uu2 := cell_of_row _ _ 2 _ 34 (0, 0) hxr
  have uu3 := cell_of_row _ _ 3 _ 34 (0, 0) hxr
  have uu4 := cell_of_row _ _ 4 _ 34 (0, 0) hxr
  have vv0 := cell_of_row _ _ 0 _ 34 (0, 0) hyr
  have vv1 := cell_of_row _ _ 1 _ 34 (0, 0) hyr
  have vv2 := cell_of_row _ _ 2 _ 34 (0, 0) hyr
  have vv3 := cell_of_row _ _ 3 _ 34 (0, 0) hyr
  have vv4 := cell_of_row _ _ 4 _ 34 (0, 0) hyr
  simp only [List.getElem?_toArray, List.getElem?_cons_zero, List.getElem?_cons_succ] at uu0 uu1 uu2 uu3 uu4 vv0 vv1 vv2 vv3 vv4
  have hfz : ∀ i, wj3.frozen? ⟨xb, i, none⟩ = false := fun i => by simp [World.frozen?, hxr]
  have fz0 := hfz 0
  have fz1 := hfz 1
  have fz2 := hfz 2
  have fz3 := hfz 3
  have fz4 := hfz 4
  clear hfz hxr hyr
  go_upto_region 12 with (at_builtin; refine wpList_append_m wj3 repNm rfl (.tmp 69) (.tmp 71) 32 rfl 69 i69 _ 72 Try.underlying32 HI69.out.1 HI69.out.2.1 HI69.out.2.2.1 HI69.out.2.2.2 rfl (by decide) lab3 4 (by decide) w2.heap.size (.slice X4 g.inits.length x4) g.inits rfl HJ3.out.ot HJ3.out.fr Y4 _ y4 h.inits rfl HJ3.out.y.inits (by have := HSz.out; omega) (by have := HSz.out; unfold maxLen; omega) HJ3.out.los ?_; intro v' wz4 lab4 hoz hgz; obtain ⟨V4, vn4, vc4, hvw⟩ : ∃ A m c, v' = .slice A m c := (by obtain ⟨A, c, e⟩ := OL.form hoz; exact ⟨A, _, c, e⟩); subst hvw; have hk := HJ3.out.block (by decide) (by decide) hgz; have gx := hk.1.trans HJ3.out.row; have gy := hk.2.1.trans HJ3.out.yr; have q4 : wz4.cell? ⟨xb, 4, none⟩ = some (.slice X4 g.inits.length x4) := cell_of_row _ _ 4 _ 34 (0, 0) gx; have qf4 : wz4.frozen? ⟨xb, 4, none⟩ = false := (by simp [World.frozen?, gx]); have HJ4 := Lib.hid (HJ3.out.more4 zzx hgz hoz); clear hoz hgz hk gx gy)
  clear uu0 uu1 uu2 uu3 uu4 vv0 vv1 vv2 vv3 vv4 fz0 fz1 fz2 fz3 fz4
  clear q4 qf4
  generalize wz4.setCell ⟨xb, 4, none⟩ (.slice V4 vn4 vc4) = wj4 at HJ4 ⊢
  have hat4 : GrAt X wj4 (Since 0 wj4) V1 vn1 V2 vn2 V3 vn3 V4 vn4 := by
    rw [HX.out]
    exact (HJ4.out.at_).later (Below.refl _ _) (Nat.zero_le _)
  obtain rfl := hat4.nodes.len
  obtain rfl := hat4.ins.len
  obtain rfl := hat4.outs.len
  obtain rfl := hat4.inits.len
  have Hat4 := Lib.hid hat4
  have hrow4 : wj4.heap[xb]? = some (.cells #[.string X.name, .slice V1 X.nodes.length vc1, .slice V2 X.ins.length vc2, .slice V3 X.outs.length vc3, .slice V4 X.inits.length vc4] 34 (0, 0)) := by
    have h1 : h.name = X.name := by rw [HX.out]; rfl
    rw [← h1]
    exact HJ4.out.row
  have HR4 := Lib.hid hrow4
  have zx4 := HJ4.out.xs
  have HBf := Lib.hid (HB2.out.trans (HJ4.out.below.mono HB2.out.size))
  have hXz : X.nodes.length ≤ 2000 ∧ X.ins.length ≤ 6000 ∧ X.outs.length ≤ 6000 ∧ X.inits.length ≤ 6000 := by
    have := HSz.out
    rw [HX.out]
    simp only [addG, List.length_append]
    omega
  obtain ⟨hz1, hz2, hz3, hz4⟩ := hXz
  have HTX := Lib.hid (show toldB X = fewG X by rw [HX.out]; exact told_add HTg.out HTh.out)
  clear hat4 hrow4
  cases hfw : fewG X with
  | true =>
    have HD := Lib.hid (fun w => decode_ok (s := S ++ T) (g := X) (by rw [HDz.out]; simp [gEnd, hfw]) hcz w)
    rw [hfw] at HTX
    clear hfw
    go_wp2_with fail
    refine (HD.out _).mono ?_
    rintro e w7 ⟨C1, c1, C2, c2, C3, c3, C4, c4, rfl, hb7, hat7⟩
    have z7 := hb7.size
    have hal : Below w7.heap.size w7 (w7.alloc (.cells #[.string X.name, .slice C1 X.nodes.length c1, .slice C2 X.ins.length c2, .slice C3 X.outs.length c3, .slice C4 X.inits.length c4] 34)) := (Below.refl _ _).alloc (Nat.le_refl _) _
    have hb8 := hb7.trans (hal.mono hb7.size)
    have HD8 := Lib.hid (hat7.later hal (lo' := 0) (Nat.zero_le _))
    have HX8 := Lib.hid (Hat4.out.later hb8 (Nat.le_refl _))
    have hrd := heap_alloc_new w7 (.cells #[.string X.name, .slice C1 X.nodes.length c1, .slice C2 X.ins.length c2, .slice C3 X.outs.length c3, .slice C4 X.inits.length c4] 34)
    have hrx := (hb8.block xb zx4).trans HR4.out
    have HRd := Lib.hid hrd
    have HRx := Lib.hid hrx
    have uu0 := cell_of_row _ _ 0 _ 34 (0, 0) hrx
    have uu1 := cell_of_row _ _ 1 _ 34 (0, 0) hrx
    have uu2 := cell_of_row _ _ 2 _ 34 (0, 0) hrx
    have uu3 := cell_of_row _ _ 3 _ 34 (0, 0) hrx
    have uu4 := cell_of_row _ _ 4 _ 34 (0, 0) hrx
    simp only [List.getElem?_toArray, List.getElem?_cons_zero, List.getElem?_cons_succ] at uu0 uu1 uu2 uu3 uu4
    have HB8 := Lib.hid (HBf.out.trans (hb8.mono HBf.out.size))
    have zw7 : (w7.alloc (.cells #[.string X.name, .slice C1 X.nodes.length c1, .slice C2 X.ins.length c2, .slice C3 X.outs.length c3, .slice C4 X.inits.length c4] 34)).heap.size = w7.heap.size + 1 := by simp
    have zw7' := Nat.le_of_eq zw7.symm
    clear hb7 hat7 hal hb8 hrd hrx zw7
    go_wp2_with fail
    generalize w7.alloc (.cells #[.string X.name, .slice C1 X.nodes.length c1, .slice C2 X.ins.length c2, .slice C3 X.outs.length c3, .slice C4 X.inits.length c4] 34) = w8 at HD8 HX8 HRd HRx HB8 zw7' uu0 uu1 uu2 uu3 uu4 ⊢
    refine (rtold_any X w8 (Since 0 w8) V1 V2 V3 V4 _ vc1 _ vc2 _ vc3 _ vc4 HX8.out.nodes HX8.out.ins HX8.out.outs HX8.out.inits (fun k hk => hk.2) (by omega) (by omega) (by omega)).mono ?_
    rintro e w9 ⟨rfl, hb9⟩
    rw [HTX.out]
    have z9 := hb9.size
    have hrx := (hb9.block xb (by omega)).trans HRx.out
    have hrd := (hb9.block w7.heap.size (by omega)).trans HRd.out
    have HD9 := Lib.hid (HD8.out.later hb9 (Nat.le_refl _))
    have HX9 := Lib.hid (HX8.out.later hb9 (Nat.le_refl _))
    have vv0 := cell_of_row _ _ 0 _ 34 (0, 0) hrd
    have vv1 := cell_of_row _ _ 1 _ 34 (0, 0) hrd
    have vv2 := cell_of_row _ _ 2 _ 34 (0, 0) hrd
    have vv3 := cell_of_row _ _ 3 _ 34 (0, 0) hrd
    have vv4 := cell_of_row _ _ 4 _ 34 (0, 0) hrd
    have ww0 := cell_of_row _ _ 0 _ 34 (0, 0) hrx
    have ww1 := cell_of_row _ _ 1 _ 34 (0, 0) hrx
    have ww2 := cell_of_row _ _ 2 _ 34 (0, 0) hrx
    have ww3 := cell_of_row _ _ 3 _ 34 (0, 0) hrx
    have ww4 := cell_of_row _ _ 4 _ 34 (0, 0) hrx
    simp only [List.getElem?_toArray, List.getElem?_cons_zero, List.getElem?_cons_succ] at vv0 vv1 vv2 vv3 vv4 ww0 ww1 ww2 ww3 ww4
    have HB9 := Lib.hid (HB8.out.trans (hb9.mono HB8.out.size))
    clear hb9 hrx hrd uu0 uu1 uu2 uu3 uu4
    go_wp2_with fail
    refine (same_yes X w9 (Since 0 w9) C1 C2 C3 C4 V1 V2 V3 V4 _ _ _ _ c1 c2 c3 c4 vc1 vc2 vc3 vc4 HD9.out.nodes HD9.out.ins HD9.out.outs HD9.out.inits HX9.out.nodes HX9.out.ins HX9.out.outs HX9.out.inits (fun k hk => hk.2)).mono ?_
    rintro e w10 ⟨rfl, hb10⟩
    have HB10 := Lib.hid (HB9.out.trans (hb10.mono HB9.out.size))
    clear hb10
    go_wp2_with fail
    refine (HL.out _).mono ?_
    rintro e w11 ⟨rfl, hb11⟩
    have HB11 := Lib.hid (HB10.out.trans (hb11.mono HB10.out.size))
    clear hb11
    go_wp2
    go_ret
    exact ⟨rfl, HB11.out⟩
  | false =>
    have HD := Lib.hid (fun w => (decode_no (s := S ++ T) (err := 6) (by rw [HDz.out]; simp [gEnd, hfw]) hcz w).mono fun _ _ => dec_none)
    rw [hfw] at HTX
    clear hfw
    go_wp2_with fail
    refine (HD.out _).mono ?_
    rintro e w7 ⟨C1, c1, C2, c2, C3, c3, C4, c4, rfl, hb7⟩
    have z7 := hb7.size
    have hal : Below w7.heap.size w7 (w7.alloc (.cells #[.string ⟨#[]⟩, .slice C1 0 c1, .slice C2 0 c2, .slice C3 0 c3, .slice C4 0 c4] 34)) := (Below.refl _ _).alloc (Nat.le_refl _) _
    have hb8 := hb7.trans (hal.mono hb7.size)
    have HX8 := Lib.hid (Hat4.out.later hb8 (Nat.le_refl _))
    have hrx := (hb8.block xb zx4).trans HR4.out
    have uu0 := cell_of_row _ _ 0 _ 34 (0, 0) hrx
    have uu1 := cell_of_row _ _ 1 _ 34 (0, 0) hrx
    have uu2 := cell_of_row _ _ 2 _ 34 (0, 0) hrx
    have uu3 := cell_of_row _ _ 3 _ 34 (0, 0) hrx
    have uu4 := cell_of_row _ _ 4 _ 34 (0, 0) hrx
    simp only [List.getElem?_toArray, List.getElem?_cons_zero, List.getElem?_cons_succ] at uu0 uu1 uu2 uu3 uu4
    have HB8 := Lib.hid (HBf.out.trans (hb8.mono HBf.out.size))
    clear hb7 hal hb8 hrx
    go_wp2_with fail
    generalize w7.alloc (.cells #[.string ⟨#[]⟩, .slice C1 0 c1, .slice C2 0 c2, .slice C3 0 c3, .slice C4 0 c4] 34) = w8 at HX8 HB8 uu0 uu1 uu2 uu3 uu4 ⊢
    refine (rtold_any X w8 (Since 0 w8) V1 V2 V3 V4 _ vc1 _ vc2 _ vc3 _ vc4 HX8.out.nodes HX8.out.ins HX8.out.outs HX8.out.inits (fun k hk => hk.2) (by omega) (by omega) (by omega)).mono ?_
    rintro e w9 ⟨rfl, hb9⟩
    rw [HTX.out]
    have HB9 := Lib.hid (HB8.out.trans (hb9.mono HB8.out.size))
    clear hb9 uu0 uu1 uu2 uu3 uu4
    go_wp2_with fail
    refine (HL.out _).mono ?_
    rintro e w11 ⟨rfl, hb11⟩
    have HB11 := Lib.hid (HB9.out.trans (hb11.mono HB9.out.size))
    clear hb11
    go_wp2
    go_ret
    exact ⟨rfl, HB11.out⟩
end Go.Proofs.Ytkcnpnnflbibiaa
