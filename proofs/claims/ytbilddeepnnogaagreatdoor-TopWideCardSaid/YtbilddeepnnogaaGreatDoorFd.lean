import Derived.Test.YtbilddeepnnogaaGreatDoorFam
import Derived.Deep.Cut
import Derived.Deep.CutRange
set_option linter.unusedVariables false
set_option linter.unusedSimpArgs false
/- A pass' beginning: a graph of its own. -/
set_option linter.unusedVariables false
set_option maxRecDepth 100000
namespace Go.Proofs.YtbilddeepnnogaaGreatDoor
open Go.RowKit Go.Shelf

/-- A node as it lies in a list. -/
def repNx : Rep Op1 where
  sz := 5
  R := fun w Z cs o => ∃ nm b off c, cs = [.string o.op, .string nm, .slice (some ⟨b, off, none⟩) o.m c, .string o.out, .slice none 0 0] ∧ Z b ∧ b < w.heap.size ∧ ∀ j, j < o.m → w.cell? ⟨b, off + j, none⟩ = some (.string ⟨#[120]⟩)
  len := by rintro _ _ _ _ ⟨nm, b, off, c, rfl, _⟩; rfl
  one := by
    rintro _ _ _ _ ⟨nm, b, off, c, rfl, _⟩ u hu
    simp at hu
    rcases hu with rfl | rfl | rfl | rfl | rfl <;> rfl
  keep := by
    rintro w w' Z Z' _ _ ⟨nm, b, off, c, rfl, h0, h1, h2⟩ hk hZ
    refine ⟨nm, b, off, c, rfl, hZ b h0, ?_, fun j hj => (hk.cell (a := ⟨b, off + j, none⟩) h0).trans (h2 j hj)⟩
    have e := hk b h0
    rw [Array.getElem?_eq_getElem h1] at e
    exact (Array.getElem?_eq_some_iff.1 e).1
theorem ndAt_of {w : World} {Z : Nat → Prop} {v : Value} {l : List Op1} (h : IsSlc repNx w Z v l) (hl : 0 < l.length) (hZ : ∀ k, Z k → k < w.heap.size) : ∃ A c, v = .slice A l.length c ∧ NdAt w A l := by
  obtain ⟨A, n, c, rfl, hs, _⟩ := h
  have hn := hs.len
  subst hn
  refine ⟨A, c, rfl, ?_⟩
  obtain ⟨b, off, rfl, hb, hc⟩ := hs.at_ hl
  refine ⟨b, off, rfl, hZ b hb, fun j o hj => ?_⟩
  obtain ⟨cs, ⟨nm, b2, off2, c2, rfl, q0, q1, q2⟩, hi⟩ := hc j o hj
  exact ⟨nm, _, c2, by have := hi 0 (by decide); simpa [repNx] using this, by have := hi 1 (by decide); simpa [repNx] using this, by have := hi 2 (by decide); simpa [repNx] using this, by have := hi 3 (by decide); simpa [repNx] using this, by have := hi 4 (by decide); simpa [repNx] using this, b2, off2, rfl, q1, q2⟩
/-- A graph in block H whose nodes come one by one; W0: as it began. -/
structure Gb (W0 wr : World) (t : TypeId) (rest : List Value) (gn : ByteArray) (H : Nat) (Ai Ao : Option Addr) (ci co : Nat) (l : List Op1) (k : Nat) : Prop where
  only : Only H W0 wr
  lt : H < W0.heap.size
  row : ∃ v, wr.heap[H]? = some (.cells ([.string gn, v, .slice Ai 1 ci, .slice Ao l.length co, .slice none 0 0] ++ rest).toArray t (0, 0)) ∧ OZ repNx 37 wr W0.heap.size v (l.take k)
theorem Gb.since {W0 wr w' : World} {t : TypeId} {rest : List Value} {gn : ByteArray} {H : Nat} {Ai Ao : Option Addr} {ci co : Nat} {l : List Op1} {k : Nat} (h : Gb W0 wr t rest gn H Ai Ao ci co l k) (hb : Since wr w') : Gb W0 w' t rest gn H Ai Ao ci co l k := by
  obtain ⟨h1, h2, v, h3, h4⟩ := h
  have hlt : H < wr.heap.size := Nat.lt_of_lt_of_le h2 h1.size
  exact ⟨h1.trans ⟨hb.os, hb.tape, hb.output, hb.size, fun k hk _ => hb.block k hk⟩, h2, v, (hb.block H hlt).trans h3, h4.below hb⟩
theorem lt_new' (w : World) (o : Obj) : w.heap.size < (w.alloc o).heap.size := by simp
theorem lt_new (w : World) (o : Obj) : w.heap.size < (w.alloc o).drew.heap.size := by show _ < (w.alloc o).heap.size; simp
/-- A graph's block has been laid, its values are there. -/
structure Sg (w2 wr : World) (gn : ByteArray) (H : Nat) (Ai Ao : Option Addr) (ci co : Nat) (l : List Op1) (x : Int) : Prop where
  since : Since w2 wr
  ge : w2.heap.size ≤ H
  lt : H < wr.heap.size
  row : wr.heap[H]? = some (.cells #[.string gn, .slice none 0 0, .slice Ai 1 ci, .slice Ao l.length co, .slice none 0 0] 33 (0, 0))
  ins : VlX wr (fun k => k ≠ H) Ai [⟨#[120]⟩] x
  outs : VlX wr (fun k => k ≠ H) Ao (l.map (·.out)) x
theorem Sg.later {w2 wr w' : World} {gn : ByteArray} {H : Nat} {Ai Ao : Option Addr} {ci co : Nat} {l : List Op1} {x : Int} (h : Sg w2 wr gn H Ai Ao ci co l x) (hb : Since wr w') : Sg w2 w' gn H Ai Ao ci co l x :=
  ⟨h.since.trans hb, h.ge, Nat.lt_of_lt_of_le h.lt hb.size, (hb.block H h.lt).trans h.row, h.ins.below hb, h.outs.below hb⟩
theorem Sg.gb {w2 wr : World} {gn : ByteArray} {H : Nat} {Ai Ao : Option Addr} {ci co : Nat} {l : List Op1} {x : Int} (h : Sg w2 wr gn H Ai Ao ci co l x) : Gb wr wr 33 [] gn H Ai Ao ci co l 0 :=
  ⟨Only.refl _ _, h.lt, _, h.row, oz_nil⟩
section
variable {w2 W wi W' wo : World} {gn : ByteArray} {Ai Ao : Option Addr} {ci co : Nat} {l : List Op1} {x : Int}
theorem sg_a (hi : VlC w2 W wi Ai [⟨#[120]⟩] x) (ho : VlC w2 W' wo Ao (l.map (·.out)) x) (hs : Since wi wo) :
    Sg w2 (wo.alloc (.cells #[.string gn, .slice none 0 0, .slice Ai 1 ci, .slice Ao l.length co, .slice none 0 0] 33)) gn wo.heap.size Ai Ao ci co l x := by
  have z1 := hi.base.size
  have z2 := hi.since.size
  have z3 := hs.size
  exact ⟨(hi.base.trans (hi.since.trans hs)).al _, by omega, by simp, heap_alloc_new wo _, hi.old (hs.al _) (by omega) (.inr (by omega)), ho.old ((Since.refl wo).al _) (by omega) (.inr (Nat.le_refl _))⟩
theorem sg_b {H : Nat} (hi : VlC w2 W wi Ai [⟨#[120]⟩] x) (ho : VlC w2 W' wo Ao (l.map (·.out)) x) (hs : Since wi wo) (hg : w2.heap.size ≤ H) (h1 : H < W.heap.size ∨ wi.heap.size ≤ H) (h2 : H < W'.heap.size ∨ wo.heap.size ≤ H) (g9 : wo.heap[H]? = some (.cells #[.string ⟨#[]⟩, .slice none 0 0, .slice none 0 0, .slice none 0 0, .slice none 0 0] 33 (0, 0))) :
    Sg w2 (((((wo.setCell ⟨H, 0, none⟩ (.string gn)).setCell ⟨H, 1, none⟩ (.slice none 0 0)).setCell ⟨H, 2, none⟩ (.slice Ai 1 ci)).setCell ⟨H, 3, none⟩ (.slice Ao l.length co)).setCell ⟨H, 4, none⟩ (.slice none 0 0)) gn H Ai Ao ci co l x := by
  refine put5 (F := fun W => Sg w2 W gn H Ai Ao ci co l x) g9 ?_
  intro w5 g5 hk hb hz
  have z1 := hi.base.size
  have z2 := hi.since.size
  have z3 := hs.size
  have hlt : H < wo.heap.size := (Array.getElem?_eq_some_iff.1 g9).1
  exact ⟨Below.trans (hi.base.trans (hi.since.trans hs)) (hb.mono hg), hg, by omega, g5,
    (hi.old hs hg h1).keep (fun k _ h => hk k h) (by omega), (ho.old (Since.refl _) hg h2).keep (fun k _ h => hk k h) (by omega)⟩
end
/-- One node more. -/
theorem Gb.come {W0 wr w5 w7 : World} {t : TypeId} {rest : List Value} {gn : ByteArray} {H : Nat} {Ai Ao : Option Addr} {ci co : Nat} {l : List Op1} {k : Nat} {o : Op1} {v v' : Value} (h : Gb W0 wr t rest gn H Ai Ao ci co l k) (ho : l[k]? = some o) (hs : Since wr w5) (hz : OZ repNx 37 w7 W0.heap.size v' (l.take k ++ [o])) (hg : w5.grownBy w7 v.ownBlock) (hv : ∀ j, v.ownBlock = some j → W0.heap.size ≤ j)
    (hr : w7.heap[H]? = some (.cells ([.string gn, v, .slice Ai 1 ci, .slice Ao l.length co, .slice none 0 0] ++ rest).toArray t (0, 0))) : Gb W0 (w7.setCell ⟨H, 1, none⟩ v') t rest gn H Ai Ao ci co l (k + 1) := by
  have z0 := h.only.size
  have z1 := hs.size
  have z2 := hg.size
  have hlt := h.lt
  refine ⟨⟨hg.os.trans (hs.os.trans h.only.os), hg.tape.trans (hs.tape.trans h.only.tape), hg.output.trans (hs.output.trans h.only.output), by simp [World.setCell]; omega, fun j hj hne => ?_⟩, h.lt, v', ?_, ?_⟩
  · exact (Below.heap_setCell _ _ _ _ hne).trans ((hg.block j (by omega) (fun e => by have := hv j e.symm; omega)).trans ((hs.block j (by omega)).trans (h.only.block j hj hne)))
  · have := heap_setCell_same _ _ 1 _ _ v' hr
    simpa using this
  · rw [List.take_add_one, ho]
    exact hz.keep (fun j hj _ => Below.heap_setCell _ _ _ _ (by show j ≠ H; omega)) (by simp [World.setCell])
theorem res_row_tmp2 {P : Program} {fn : Func} {p u v : Tmp} {ty : TypeId} (h : fn.results = #[.cell p ty, .tmp u, .tmp v]) (tmps : Array Value) (w : World) (g : Nat) (t : TypeId) (cs : Array Value) (fr : Nat × Nat) (d : TypeDesc)
    (hp : tmps.getD p undef = .pointer (some ⟨g, 0, none⟩)) (hg : w.heap[g]? = some (.cells cs t fr))
    (hu : P.underlying ty = some d) (hd : (match d with | .struct _ | .array _ _ => true | _ => false) = true) (hi : (P.info? ty).map (·.size) = some cs.size) :
    (results fn tmps).run P w = .ok (.tuple #[.agg cs, tmps.getD u undef, tmps.getD v undef]) w := by
  have hp' : tmps[p]?.getD undef = .pointer (some ⟨g, 0, none⟩) := by simpa using hp
  simp [results, h, hp', asAddr, run_loadVar_row w g t ty cs fr d hg hu hd hi]
theorem ne_of_int {w : World} {g : Nat} {cs : Array Value} {t : TypeId} {fr : Nat × Nat} (h : w.heap[g]? = some (.cells cs t fr)) (hn : ∀ u ∈ cs, ∀ k n, u ≠ .int k n) {b o : Nat} {n : Int} (hc : w.cell? ⟨b, o, none⟩ = some (.int .i64 n)) : b ≠ g := by
  rintro rfl
  rw [cell_of_row w b o cs t fr h] at hc
  exact hn _ (Array.mem_of_getElem? hc) _ _ rfl
/-- Values in memory stay while a row turns that bears no number. -/
theorem VlAt.noint {w w' : World} {A : Option Addr} {ns : List ByteArray} {x : Int} (h : VlAt w A ns x) {g : Nat} {cs : Array Value} {t : TypeId} {fr : Nat × Nat} (hg : w.heap[g]? = some (.cells cs t fr)) (hn : ∀ u ∈ cs, ∀ k n, u ≠ .int k n) (hk : ∀ k, k < w.heap.size → k ≠ g → w'.heap[k]? = w.heap[k]?) (hs : w.heap.size ≤ w'.heap.size) : VlAt w' A ns x := by
  obtain ⟨b, off, e, h1, h2⟩ := h
  refine ⟨b, off, e, Nat.lt_of_lt_of_le h1 hs, fun j s hj => ?_⟩
  obtain ⟨Ad, c, q0, q1, q2, bd, od, rfl, q3, q4⟩ := h2 j s hj
  have n1 := ne_of_int hg hn q1
  have n2 := ne_of_int hg hn q4
  have ce : ∀ (a : Addr), a.block < w.heap.size → a.block ≠ g → w'.cell? a = w.cell? a := fun a h h' => World.cell?_of_block (hk a.block h h')
  exact ⟨_, c, (ce ⟨b, _, none⟩ h1 n1).trans q0, (ce ⟨b, _, none⟩ h1 n1).trans q1, (ce ⟨b, _, none⟩ h1 n1).trans q2, bd, od, rfl, Nat.lt_of_lt_of_le q3 hs, (ce ⟨bd, _, none⟩ q3 n2).trans q4⟩
/-- All nodes are there, and the graph is handed back by block g. -/
theorem Gb.flat {W0 wr wf : World} {H g : Nat} {Ai Ao : Option Addr} {l : List Op1} {x : Int} {An : Option Addr} {n cn : Nat} (hoz : OZ repNx 37 wr W0.heap.size (.slice An n cn) l) (ho : Only H W0 wr) (hi : VlX W0 (fun k => k ≠ H) Ai [⟨#[120]⟩] x) (hu : VlX W0 (fun k => k ≠ H) Ao (l.map (·.out)) x) (hok : FlatL l) (hgl : Gl wf) (h1 : 1 ≤ x) (h2 : x ≤ 30)
    (hg : g < W0.heap.size) {cs : Array Value} {t' : TypeId} {fr : Nat × Nat} (hrow : wr.heap[g]? = some (.cells cs t' fr)) (hn : ∀ u ∈ cs, ∀ k n, u ≠ .int k n) (hk : ∀ k, k ≠ g → wf.heap[k]? = wr.heap[k]?) (hs : wr.heap.size ≤ wf.heap.size) : FlatG wf An Ai Ao l x := by
  have hz := hoz.keep (w' := wf) (fun k hk' _ => hk k (by omega)) hs
  obtain ⟨A, c, e, hnd⟩ := ndAt_of (hz.isSlc (by decide)) hok.pos (fun k hk => hk.2)
  injection e with e1 e2 e3
  subst e1
  exact ⟨hok, hgl, h1, h2, hnd, ((hi.keep (fun k hk' hne => ho.block k hk' hne) ho.size).vlAt).noint hrow hn (fun k _ h => hk k h) hs, ((hu.keep (fun k hk' hne => ho.block k hk' hne) ho.size).vlAt).noint hrow hn (fun k _ h => hk k h) hs⟩
theorem Tryz.info37 : (Tryz.prog.info? 37).map (fun i => (i.zero, i.size, i.bytes)) = some (some (.agg #[.string ⟨#[]⟩, .string ⟨#[]⟩, .slice none 0 0, .string ⟨#[]⟩, .slice none 0 0]), 5, 96) := by kernel_rfl
set_option maxHeartbeats 6400000 in
theorem fsorted_any (gn : ByteArray) (An Ai Ao : Option Addr) (cn ci co : Nat) (l : List Op1) (x : Int) (w : World) (h : FlatG w An Ai Ao l x) :
    Calls Tryz.prog 98 #[.agg #[.string gn, .slice An l.length cn, .slice Ai 1 ci, .slice Ao l.length co, .slice none 0 0]] w fun e w' => ∃ An' Ai' Ao' cn' ci' co' A c, e = .returned (.tuple #[.agg #[.string gn, .slice An' l.length cn', .slice Ai' 1 ci', .slice Ao' l.length co', .slice none 0 0], .slice A (l.length + 1) c, .int .i64 0]) ∧ FlatG w' An' Ai' Ao' l x ∧ VlAt w' A (⟨#[120]⟩ :: l.map (·.out)) x ∧ Below w.heap.size w w' := by
  have H := Lib.hid h
  have H5 := h.ok.most
  have H0 := h.ok.pos
  have hnl : (l.length : Int) ≤ 5 := by omega
  clear h
  go_enter Tryz.func98, Tryz.ntmps98
  go_wp2_with fail
  refine newX2 (F := fun W => Calls _ _ _ W _) ?_
  intro w1 h1
  refine (all_any gn An Ai Ao cn ci co l x w1 (H.out.below h1.below)).mono ?_
  rintro e w2 ⟨A, c, rfl, hv, hb⟩
  have h2 := h1.all hb
  clear hb h1
  have HV := Lib.hid hv
  have HX := Lib.hid h2
  obtain ⟨r0, r1, r2, r3, r4, -⟩ := cells5 (h2.b0 rfl)
  have HKS := Lib.hid (show ∀ W, Since w2 W → (W.cell? ⟨w.heap.size, 0, none⟩ = some (.string gn) ∧ W.cell? ⟨w.heap.size, 2, none⟩ = some (.slice Ai 1 ci) ∧ W.cell? ⟨w.heap.size, 3, none⟩ = some (.slice Ao l.length co) ∧ W.cell? ⟨w.heap.size, 4, none⟩ = some (.slice none 0 0)) from fun W hW => by
    obtain ⟨e0, e1, e2, e3, e4, -⟩ := cells5 ((HX.out.all hW).b0 rfl)
    exact ⟨e0, e2, e3, e4⟩)
  have HCi := Lib.hid (fun W (hs : Since w2 W) => ownC171 (c := ci) (W := W) (ns := [⟨#[120]⟩]) (n := 1) rfl (H.out.below h2.below).ins hs (by omega) (by omega))
  have HCo := Lib.hid (fun W (hs : Since w2 W) => ownC171 (c := co) (W := W) (ns := l.map (·.out)) (n := l.length) (by simp) (H.out.below h2.below).outs hs H0 H5)
  clear hv h2
  go_wp2_with fail
  go_cut [7] from 22 to 34 (fun v7 wx => ∃ N Ai' Ao' ci' co', v7 = .pointer (some ⟨N, 0, none⟩) ∧ Sg w2 wx gn N Ai' Ao' ci' co' l x)
  case first =>
    go_region_held3 (fun W => (W.cell? ⟨w.heap.size, 0, none⟩ = some (.string gn) ∧ W.cell? ⟨w.heap.size, 2, none⟩ = some (.slice Ai 1 ci) ∧ W.cell? ⟨w.heap.size, 3, none⟩ = some (.slice Ao l.length co) ∧ W.cell? ⟨w.heap.size, 4, none⟩ = some (.slice none 0 0)) ∧ Since w2 W)
      (first
        | exact ⟨HKS.out _ (Since.refl _).dr, (Since.refl _).dr⟩
        | (refine (fun h => ⟨HKS.out _ h, h⟩) ?_; first | with_reducible assumption | with_reducible exact ((Since.refl _).al _).dr | with_reducible exact (Since.al (And.right (a := _ ∧ _) (by with_reducible assumption)) _) | with_reducible exact (Since.al' (And.right (a := _ ∧ _) (by with_reducible assumption)) (by omega) _) | with_reducible exact hi.base.trans hi.since | with_reducible exact ho.base.trans ho.since | ((with_reducible refine Since.set (Since.set (Since.set (Since.set (Since.set (And.right (a := _ ∧ _) (by with_reducible assumption)) ?_ _) ?_ _) ?_ _) ?_ _) ?_ _) <;> (dsimp only; omega))))
      (first
        | (go_at_call 171; (with_reducible refine (HCi.out _ (by first | with_reducible assumption | exact And.right (a := _ ∧ _) (by with_reducible assumption))).mono ?_); rintro e wi ⟨Ai', ci', rfl, hi⟩; have zi := hi.base.size; have yi := hi.since.size; (first | ((with_reducible have g9 := hi.since.nw); obtain ⟨a0, a1, a2, a3, a4, e0, e1, e2, e3, e4⟩ := cells5 g9) | ((with_reducible have g9 := hi.since.nw'); obtain ⟨a0, a1, a2, a3, a4, e0, e1, e2, e3, e4⟩ := cells5 g9) | ((with_reducible have g9 := hi.since.kp g9); obtain ⟨a0, a1, a2, a3, a4, e0, e1, e2, e3, e4⟩ := cells5 g9) | skip))
        | (go_at_call 171; (with_reducible refine (HCo.out _ (by first | with_reducible assumption | exact And.right (a := _ ∧ _) (by with_reducible assumption))).mono ?_); rintro e wo ⟨Ao', co', rfl, ho⟩; have zo := ho.base.size; have yo := ho.since.size; (first | ((with_reducible have g9 := ho.since.nw); obtain ⟨a0, a1, a2, a3, a4, e0, e1, e2, e3, e4⟩ := cells5 g9) | ((with_reducible have g9 := ho.since.nw'); obtain ⟨a0, a1, a2, a3, a4, e0, e1, e2, e3, e4⟩ := cells5 g9) | ((with_reducible have g9 := ho.since.kp g9); obtain ⟨a0, a1, a2, a3, a4, e0, e1, e2, e3, e4⟩ := cells5 g9) | skip))
        | (go_at_call 119; (with_reducible refine (clone119 _ _).mono ?_); rintro e w3 ⟨rfl, rfl⟩))
    all_goals
      go_wp2_with fail
      go_meet
      first
        | exact ⟨_, _, _, _, _, rfl, sg_a hi ho ho.since⟩
        | exact ⟨_, _, _, _, _, rfl, sg_b hi ho ho.since (by omega) (by first | exact .inl (by first | omega | exact lt_new _ _ | exact Nat.lt_of_lt_of_le (lt_new _ _) (by omega) | exact Nat.lt_of_lt_of_le (lt_new' _ _) (by omega)) | exact .inr (by omega)) (by first | exact .inl (by first | omega | exact lt_new _ _ | exact Nat.lt_of_lt_of_le (lt_new _ _) (by omega) | exact Nat.lt_of_lt_of_le (lt_new' _ _) (by omega)) | exact .inr (by omega)) g9⟩
        | exact ⟨_, _, _, _, _, rfl, sg_b hi ho (((Since.refl _).al _).trans ho.since) (by omega) (by first | exact .inl (by first | omega | exact lt_new _ _ | exact Nat.lt_of_lt_of_le (lt_new _ _) (by omega) | exact Nat.lt_of_lt_of_le (lt_new' _ _) (by omega)) | exact .inr (by omega)) (by first | exact .inl (by first | omega | exact lt_new _ _ | exact Nat.lt_of_lt_of_le (lt_new _ _) (by omega) | exact Nat.lt_of_lt_of_le (lt_new' _ _) (by omega)) | exact .inr (by omega)) g9⟩
  case rest =>
    obtain ⟨N, Ai', Ao', ci', co', rfl, hsg⟩ := hcut
    have hfx := HX.out.all hsg.since
    obtain ⟨r0, r1, r2, r3, r4, -⟩ := cells5 (hfx.b0 rfl)
    obtain ⟨s0, s1, s2, s3, s4, -⟩ := cells5 hsg.row
    have HSG := Lib.hid hsg
    have HFX := Lib.hid hfx
    have hO := order_any gn An Ai Ao cn ci co l x wc (H.out.below hfx.below)
    clear hsg hfx HKS HCi HCo
    go_wp2_with fail
    refine wp_loop_rounds 1 ?_
    rw [rounds_succ]
    go_wp2_with fail
    refine hO.mono ?_
    rintro e wq ⟨Aq, cq, rfl, hq, hb⟩
    have HSG2 := Lib.hid (HSG.out.later hb)
    have HFX2 := Lib.hid (HFX.out.all hb)
    have HQ := Lib.hid hq
    clear hO hq hb HSG HFX r0 r1 r2 r3 r4 s0 s1 s2 s3 s4
    go_wp2_with fail
    go_loopw [60] (fun i wr => ∃ k : Nat, k ≤ l.length ∧ i = .int .i64 k ∧ Gb wq wr 33 [] gn N Ai' Ao' ci' co' l k) (fun i _ => l.length - (intOf i).toNat)
    case atStart => exact ⟨0, by omega, rfl, HSG2.out.gb⟩
    case round =>
      obtain ⟨k, hk, rfl, hs⟩ := hrel
      have hlo := hs.only.size
      obtain ⟨v, hrow, hoz⟩ := hs.row
      obtain ⟨Av, cv, hv⟩ := hoz.form
      rw [List.length_take, Nat.min_eq_left hk] at hv
      subst hv
      have hrow : wr.heap[N]? = some (.cells #[.string gn, .slice Av k cv, .slice Ai' 1 ci', .slice Ao' l.length co', .slice none 0 0] 33 (0, 0)) := hrow
      have hNg := HSG2.out.ge
      have hN2 := HX.out.size
      simp only [List.length_cons, List.length_nil] at hN2
      have hfx := HFX2.out.later (hs.only.below (B := w.heap.size + 2) (by omega) (by have := HFX2.out.size; simpa using this))
      by_cases hlt : k < l.length
      · have hF := H.out.below hfx.below
        obtain ⟨bq, oq, rfl, hbq, hcq⟩ := HQ.out
        have hbN : bq ≠ N := ne_of_int HSG2.out.row (by simp) (hcq 0 (by omega))
        have cq0 := (World.cell?_of_block (a := ⟨bq, oq + k, none⟩) (hs.only.block bq hbq hbN)).trans (hcq k hlt)
        obtain ⟨bn, offn, rfl, hbn, hcn⟩ := hF.nodes
        obtain ⟨o, ho⟩ : ∃ o, l[k]? = some o := ⟨_, List.getElem?_eq_getElem hlt⟩
        have hmem := List.mem_of_getElem? ho
        obtain ⟨nm, A', c', q0, q1, q2, q3, q4, q5⟩ := hcn k o ho
        obtain ⟨r0, r1, r2, r3, r4, -⟩ := cells5 (hfx.b0 rfl)
        obtain ⟨s0, s1, s2, s3, s4, f0, f1, -⟩ := cells5 hrow
        have HOZ := Lib.hid hoz
        have HROW := Lib.hid hrow
        have HS := Lib.hid hs
        have HC := Lib.hid (ownN172 o.op nm o.out A' o.m c' wr.drew (show Xs wr.drew A' o.m from q5) (hF.ok.ops o hmem).cases)
        have HO := Lib.hid ho
        clear hs hfx hF hcq hcn hoz hrow q5 ho hmem hbN
        have gN : N < wr.heap.size := by have := HSG2.out.lt; omega
        obtain ⟨i37, hi37⟩ : ∃ i, Tryz.prog.info? 37 = some i ∧ i.zero = some (.agg #[.string ⟨#[]⟩, .string ⟨#[]⟩, .slice none 0 0, .string ⟨#[]⟩, .slice none 0 0]) ∧ i.size = 5 ∧ i.bytes = 96 := by
          obtain ⟨i, h1, h2, h3, h4⟩ := info_parts Tryz.info37
          exact ⟨i, h1, h2, h3, h4⟩
        have HI := Lib.hid hi37
        clear hi37
        go_wp2_with fail
        first | (go_region_law (first
          | (go_simp; go_at_call 172; refine HC.out.mono ?_; rintro e w5 ⟨A5, c5, rfl, hx5, hb5⟩; have hsi : Since wr w5 := Below.trans (Since.refl wr).dr hb5; have g5 := hsi.kp HROW.out; obtain ⟨b5, o5, rfl, j0, j1, j2⟩ := hx5; have j0' : wr.heap.size ≤ b5 := j0; have p1 : w5.cell? ⟨N, 1, none⟩ = some (.slice Av k cv) := cell_of_row _ _ 1 _ 33 (0, 0) g5; have gl : N < w5.heap.size := Nat.lt_of_lt_of_le gN hsi.size; have p1a : (w5.alloc (.cells #[.string o.op, .string nm, .slice (some ⟨b5, o5, none⟩) o.m c5, .string o.out, .slice none 0 0] 37)).cell? ⟨N, 1, none⟩ = some (.slice Av k cv) := (World.cell?_alloc_lt w5 _ _ gl).trans p1; have HZ5 := Lib.hid (HOZ.out.below hsi); have z5 := hsi.size; have HSI := Lib.hid hsi; have G5 := Lib.hid g5; clear hb5 hsi g5; dsimp only)
          | (refine step_append_z w5 repNx o [.string o.op, .string nm, .slice (some ⟨b5, o5, none⟩) o.m c5, .string o.out, .slice none 0 0] rfl (.tmp 65) (.tmp 72) 30 rfl 37 i37 _ 96 Tryz.underlying30 HI.out.1 HI.out.2.1 HI.out.2.2.1 HI.out.2.2.2 rfl (by decide) (by decide) wq.heap.size (.slice Av k cv) (l.take k) rfl HZ5.out (fun j => j = b5) ⟨nm, b5, o5, c5, rfl, rfl, j1, j2⟩ (by rintro j rfl; refine ⟨by omega, j1, fun e => ?_⟩; have := (HOZ.out.row_lt _ e).2; omega) w5.heap.size rfl rfl (by rw [List.length_take]; omega) (by omega) ?_; intro v' w7 hz7 hg7; obtain ⟨A7, c7, e7⟩ := hz7.form; rw [List.length_append, List.length_take, Nat.min_eq_left hk] at e7; subst e7; have g7 := (hg7.block N gl (fun e => by have := (HOZ.out.row_lt _ e.symm).1; have := HSG2.out.lt; omega)).trans G5.out; obtain ⟨-, y1, -, -, -, -, yf, -⟩ := cells5 g7; have HG7 := Lib.hid (show Gb wq (w7.setCell ⟨N, 1, none⟩ (.slice A7 (k + 1) c7)) 33 [] gn N Ai' Ao' ci' co' l (k + 1) from Gb.come (v := .slice Av k cv) HS.out HO.out HSI.out hz7 hg7 (fun j e => (HOZ.out.row_lt j e).1) g7); clear hz7 hg7 g7))) | fail
        all_goals
          go_wp2_with fail
          go_roundw
          case rel => exact ⟨k + 1, by omega, by go_num, HG7.out⟩
          case measure => simp [intOf]; omega
      · obtain rfl : k = l.length := by omega
        rw [List.take_length] at hoz
        obtain ⟨s0, s1, s2, s3, s4, -⟩ := cells5 hrow
        have g1 := hfx.b1 rfl
        obtain ⟨-, -, -, -, -, f0, f1, f2, f3, f4⟩ := cells5 g1
        obtain ⟨y0, y1, y2, y3, y4, -⟩ := cells5 g1
        have HOZ := Lib.hid hoz
        have HS := Lib.hid hs
        have HB := Lib.hid hfx.below
        have HV2 := Lib.hid (HV.out.below HSG2.out.since)
        have n1 : N ≠ w.heap.size + 1 := by omega
        clear hs hfx hoz hrow hlt
        go_wp2_with fail
        refine put5 (F := fun W => bodyPost _ _ _ _ _ W) g1 ?_
        intro w9 g9 hk9 hb9 hz9
        refine bodyPost_ret (res_row_tmp2 rfl _ _ (w.heap.size + 1) 33 _ (0, 0) _ rfl g9 Tryz.underlying33 rfl (by kernel_rfl)) rfl ?_
        have hB9 : Below w.heap.size w w9 := HB.out.trans (hb9.mono (by omega))
        have z9 := HFX2.out.size
        simp only [List.length_cons, List.length_nil] at z9
        refine ⟨_, _, _, _, _, _, _, _, rfl, Gb.flat (H := N) (g := w.heap.size + 1) HOZ.out HS.out.only HSG2.out.ins HSG2.out.outs H.out.ok (H.out.gl.below hB9) H.out.lo H.out.hi (by omega) g1 (by simp) (fun k hk => hk9 k hk) (by omega), ?_, hB9⟩
        exact (HV2.out.noint HSG2.out.row (by simp) (fun k h h' => HS.out.only.block k h h') HS.out.only.size).noint g1 (by simp) (fun k _ hk => hk9 k hk) (by omega)
end Go.Proofs.YtbilddeepnnogaaGreatDoor
