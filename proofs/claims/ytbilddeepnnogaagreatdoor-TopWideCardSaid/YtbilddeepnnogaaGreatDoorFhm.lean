import Derived.Test.YtbilddeepnnogaaGreatDoorFf
import Derived.Test.YtbilddeepnnogaaGreatDoorFgm
import Derived.Deep.RegionHeld3
import Derived.Deep.RegionLaw
import Derived.Test.YtbilddeepnnogaaGreatDoorGf
import Derived.Test.YtbilddeepnnogaaGreatDoorLcm
import Derived.Laws.EntriesVeiled
set_option linter.unusedVariables false
set_option linter.unusedSimpArgs false
/- Passes: fusion (nothing, where all read x alone). -/
section
set_option linter.unusedVariables false
set_option maxRecDepth 100000
namespace Go.Proofs.YtbilddeepnnogaaGreatDoor
open Go.RowKit Go.Shelf

theorem keep4 {w2 W : World} {C : World → Prop} (H : ∀ W, Since w2 W → C W) (h : Since w2 W) : C W ∧ Since w2 W := ⟨H W h, h⟩
set_option maxHeartbeats 6400000 in
theorem fuse_any (gn : ByteArray) (An Ai Ao : Option Addr) (cn ci co : Nat) (l : List Op1) (x : Int) (w : World) (h : FlatG w An Ai Ao l x) (hmany : ∀ o ∈ l, Ops1 o.op → 1 < l.length) :
    Calls Tryz.prog 54 #[.agg #[.string gn, .slice An l.length cn, .slice Ai 1 ci, .slice Ao l.length co, .slice none 0 0]] w (PassIs gn l x w) := by
  have H := Lib.hid h
  have H5 := h.ok.most
  have H0 := h.ok.pos
  have HM := Lib.hid hmany
  have hnl : (l.length : Int) ≤ 5 := by omega
  clear h hmany
  go_enter Tryz.func54, Tryz.ntmps54
  go_wp2_with fail
  refine newX2 (F := fun W => Code.wp _ _ _ _ W) ?_
  intro w1 h1
  obtain ⟨r0, r1, r2, r3, r4, -⟩ := cells5 (h1.b0 rfl)
  go_step3
  go_wp2_with fail
  refine (usorted_any gn An Ai Ao cn ci co l x w1 (H.out.below h1.below)).mono ?_
  rintro e w2 ⟨An', Ai', Ao', cn', ci', co', rfl, hf, hb⟩
  have h2 := h1.all hb
  clear hb h1
  have HF := Lib.hid hf
  have HX := Lib.hid h2
  clear hf h2 r0 r1 r2 r3 r4
  go_wp2_with fail
  have h3 := fx1 w2 (.cells #[.string gn, .slice An' l.length cn', .slice Ai' 1 ci', .slice Ao' l.length co', .slice none 0 0] 33)
  obtain ⟨r0, r1, r2, r3, r4, -⟩ := cells5 (h3.b0 rfl)
  have H3 := Lib.hid h3
  clear h3
  generalize w2.alloc (.cells #[.string gn, .slice An' l.length cn', .slice Ai' 1 ci', .slice Ao' l.length co', .slice none 0 0] 33) = w3 at H3 r0 r1 r2 r3 r4 ⊢
  go_step3
  go_wp2_with fail
  refine wp_loop_rounds 1 ?_
  rw [rounds_succ]
  go_wp2_with fail
  clear r0 r1 r2 r3 r4
  go_loopg [24] l.length (fun g i wr => ∃ k : Nat, k + g = l.length ∧ i = .int .i64 k ∧ Since w3 wr)
  case atStart => exact ⟨0, by omega, rfl, Since.refl _⟩
  case round =>
    obtain ⟨k, hkg, rfl, hs⟩ := hrel
    have hx3 := H3.out.all hs
    have hF : FlatG wr An' Ai' Ao' l x := HF.out.below hx3.below
    obtain ⟨r0, r1, r2, r3, r4, -⟩ := cells5 (hx3.b0 rfl)
    cases gk with
    | zero =>
      obtain rfl : k = l.length := by omega
      have g1 := hx3.below.block (w.heap.size + 1) (by have := HX.out.size; simp at this; omega) |>.trans (HX.out.b1 rfl)
      obtain ⟨y0, y1, y2, y3, y4, f0, f1, f2, f3, f4⟩ := cells5 g1
      have HFl := Lib.hid hF
      have HB := Lib.hid (HX.out.below.trans (hx3.below.mono (Nat.le_of_lt (by have := HX.out.size; simp at this; omega))))
      have n1 : w2.heap.size ≠ w.heap.size + 1 := by have := HX.out.size; simp at this; omega
      clear hs hx3 hF
      go_wp2_with fail
      refine put5 (F := fun W => Exit.noGoto (bodyPost Tryz.prog Tryz.f54 (PassIs gn l x w)) Exit.ret _ W) g1 ?_
      intro w9 g9 hk9 hb9 hz9
      rw [Exit.noGoto_ret]
      refine bodyPost_ret (res_row_tmp rfl _ _ (w.heap.size + 1) 33 _ (0, 0) _ rfl g9 Tryz.underlying33 rfl (by kernel_rfl)) rfl ?_
      have hB9 : Below w.heap.size w w9 := HB.out.trans (hb9.mono (by omega))
      exact ⟨_, _, _, _, _, _, rfl, HFl.out.zrow g1 (fun k hk => hk9 k hk) (by omega) (H.out.gl.below hB9), hB9⟩
    | succ g =>
      have hlt : k < l.length := by omega
      obtain ⟨bn, offn, rfl, hbn, hcn⟩ := hF.nodes
      obtain ⟨o, ho⟩ : ∃ o, l[k]? = some o := ⟨_, List.getElem?_eq_getElem hlt⟩
      have hmem := List.mem_of_getElem? ho
      obtain ⟨nm, A', c', q0, q1, q2, q3, q4, q5⟩ := hcn k o ho
      obtain ⟨b2, off2, rfl, hb2, hc2⟩ := q5
      have hop := hF.ok.ops o hmem
      have hm0 : 0 < o.m := by have := hop.cases; omega
      have c0 : wr.cell? ⟨b2, off2, none⟩ = some (.string ⟨#[120]⟩) := hc2 0 hm0
      have hwb := (Since.refl wr).al (.cells #[.string o.op, .string nm, .slice (some ⟨b2, off2, none⟩) o.m c', .string o.out, .slice none 0 0] 37)
      have HFb := Lib.hid (hF.below hwb)
      have HSb := Lib.hid (hs.trans hwb)
      have hg5 := hwb.kp (hx3.b0 rfl)
      have hgn := heap_alloc_new wr (.cells #[.string o.op, .string nm, .slice (some ⟨b2, off2, none⟩) o.m c', .string o.out, .slice none 0 0] 37)
      have c0' := (hwb.cell (p := ⟨b2, off2, none⟩) hb2).trans c0
      have HG5 := Lib.hid hg5
      have HGN := Lib.hid hgn
      have HC0 := Lib.hid c0'
      have HMany := Lib.hid (HM.out o hmem)
      clear hs hx3 hF hcn hc2 ho hmem hwb hg5 hgn c0 c0'
      go_wp2_with fail
      clear r0 r1 r2 r3 r4 q0 q1 q2 q3 q4
      generalize wr.alloc (.cells #[.string o.op, .string nm, .slice (some ⟨b2, off2, none⟩) o.m c', .string o.out, .slice none 0 0] 37) = wb at HFb HSb HG5 HGN HC0 ⊢
      generalize wr.heap.size = N at HGN ⊢
      obtain ⟨q0, q1, q2, q3, q4, -⟩ := cells5 HGN.out
      obtain ⟨r0, r1, r2, r3, r4, -⟩ := cells5 HG5.out
      rcases hop with ⟨hop, hm1⟩ | ⟨hop, hm1⟩
      · have hmn := HMany.out hop
        have HOp := Lib.hid hop
        have hgt : (1 : Int) < (l.length : Int) := by omega
        have hmi : (0 : Int) < (o.m : Int) := by omega
        have HK := Lib.hid (show ∀ W, Since wb W → (W.cell? ⟨N, 0, none⟩ = some (.string o.op) ∧ W.cell? ⟨N, 2, none⟩ = some (.slice (some ⟨b2, off2, none⟩) o.m c') ∧ W.cell? ⟨b2, off2, none⟩ = some (.string ⟨#[120]⟩) ∧ W.cell? ⟨w2.heap.size, 0, none⟩ = some (.string gn) ∧ W.cell? ⟨w2.heap.size, 1, none⟩ = some (.slice (some ⟨bn, offn, none⟩) l.length cn') ∧ W.cell? ⟨w2.heap.size, 2, none⟩ = some (.slice Ai' 1 ci') ∧ W.cell? ⟨w2.heap.size, 3, none⟩ = some (.slice Ao' l.length co') ∧ W.cell? ⟨w2.heap.size, 4, none⟩ = some (.slice none 0 0)) from fun W hW => by
          obtain ⟨e0, e1, e2, e3, e4, -⟩ := cells5 (hW.kp HGN.out)
          obtain ⟨d0, d1, d2, d3, d4, -⟩ := cells5 (hW.kp HG5.out)
          exact ⟨e0, e2, (hW.cell (p := ⟨b2, off2, none⟩) (World.block_lt_of_cell? wb ⟨b2, off2, none⟩ HC0.out)).trans HC0.out, d0, d1, d2, d3, d4⟩)
        have HC105 := Lib.hid (fun W (hW : Since wb W) => has105 Ao' co' l x HFb.out.ok N W b2 off2 o.m c' (HFb.out.below hW).outs (HK.out W hW).2.1 (HK.out W hW).2.2.1 hm0)
        have HC107 := Lib.hid (fun W (hW : Since wb W) => readers_any gn (some ⟨bn, offn, none⟩) Ai' Ao' cn' ci' co' l x W (HFb.out.below hW))
        have HC104 := Lib.hid (fun W => fofOne_yes o.op hop W)
        clear hop hm1 hmn
        go_region_held3 (fun W => (W.cell? ⟨N, 0, none⟩ = some (.string o.op) ∧ W.cell? ⟨N, 2, none⟩ = some (.slice (some ⟨b2, off2, none⟩) o.m c') ∧ W.cell? ⟨b2, off2, none⟩ = some (.string ⟨#[120]⟩) ∧ W.cell? ⟨w2.heap.size, 0, none⟩ = some (.string gn) ∧ W.cell? ⟨w2.heap.size, 1, none⟩ = some (.slice (some ⟨bn, offn, none⟩) l.length cn') ∧ W.cell? ⟨w2.heap.size, 2, none⟩ = some (.slice Ai' 1 ci') ∧ W.cell? ⟨w2.heap.size, 3, none⟩ = some (.slice Ao' l.length co') ∧ W.cell? ⟨w2.heap.size, 4, none⟩ = some (.slice none 0 0)) ∧ Since wb W)
          (first
            | assumption
            | exact keep4 HK.out (Since.refl _).dr
            | exact keep4 HK.out hs7
            | exact keep4 HK.out hs5)
          (first
            | (go_at_call 104; (with_reducible refine (HC104.out _).mono ?_); rintro e w' ⟨rfl, rfl⟩)
            | (go_at_call 105; (with_reducible refine (HC105.out _ (Since.refl _).dr).mono ?_); rintro e w5 ⟨rfl, hs5⟩; have hs5 := Since.trans (Since.refl wb).dr hs5)
            | (go_at_call 107; (with_reducible refine (HC107.out _ hs5).mono ?_); rintro e w7 ⟨A7, c7, rfl, hs7⟩; have hs7 := Since.trans hs5 hs7))
        all_goals
          have HE := Lib.hid (HSb.out.trans hs7)
          clear hs5 hs7 q0 q1 q2 q3 q4 r0 r1 r2 r3 r4
          go_wp2_with fail
          try rw [Exit.noGoto_exit]
          try go_wp2_with fail
          go_roundg g
          case rel => exact ⟨k + 1, by omega, by go_num, HE.out⟩
          case measure => omega
      · rw [hop] at q0 HGN
        clear hop hm1 r0 r1 r2 r3 r4 q1 q2 q3 q4
        first | (go_region_law (first
          | (go_simp; go_at_call 104; refine (fofOne_no _).mono ?_; rintro e w' ⟨rfl, rfl⟩))) | fail
        all_goals
          have HE := Lib.hid (HSb.out.trans (Since.refl wb).dr)
          clear q0
          go_wp2_with fail
          try rw [Exit.noGoto_exit]
          try go_wp2_with fail
          go_roundg g
          case rel => exact ⟨k + 1, by omega, by go_num, HE.out⟩
          case measure => omega
end Go.Proofs.YtbilddeepnnogaaGreatDoor
end
/- The passes: whichever are asked for, the graph comes out as it was. -/
section
set_option linter.unusedVariables false
set_option maxRecDepth 100000
namespace Go.Proofs.YtbilddeepnnogaaGreatDoor
open Go.RowKit Go.Shelf

/-- A block that holds no number and no name may turn. -/
theorem FlatG.grow {w w' : World} {An Ai Ao : Option Addr} {l : List Op1} {x : Int} (h : FlatG w An Ai Ao l x) {g : Nat} {t : TypeId} {fr : Nat × Nat} {cs : Array Value} (hg : w.heap[g]? = some (.cells cs t fr)) (hn : ∀ u ∈ cs, ∀ k n, u ≠ .int k n) (hstr : ∀ u ∈ cs, ∀ s, s ≠ (⟨#[]⟩ : ByteArray) → u ≠ .string s) (hk : ∀ k, k ≠ g → w'.heap[k]? = w.heap[k]?) (hs : w.heap.size ≤ w'.heap.size) (hgl : Gl w') : FlatG w' An Ai Ao l x := by
  refine ⟨h.ok, hgl, h.lo, h.hi, ?_, h.ins.noint hg hn (fun k _ hn => hk k hn) hs, h.outs.noint hg hn (fun k _ hn => hk k hn) hs⟩
  obtain ⟨b, off, rfl, h1, h2⟩ := h.nodes
  have ne : ∀ {b o : Nat} {s : ByteArray}, s ≠ ⟨#[]⟩ → w.cell? ⟨b, o, none⟩ = some (.string s) → w'.heap[b]? = w.heap[b]? := fun hs hc => hk _ (ne_of_val hg (fun hm => hstr _ hm _ hs rfl) hc)
  refine ⟨b, off, rfl, Nat.lt_of_lt_of_le h1 hs, fun j o hj => ?_⟩
  obtain ⟨nm, A', c, q0, q1, q2, q3, q4, q5⟩ := h2 j o hj
  have hop := h.ok.ops o (List.mem_of_getElem? hj)
  have hb := ne hop.ne q0
  have ce : ∀ o, w'.cell? ⟨b, o, none⟩ = w.cell? ⟨b, o, none⟩ := fun o => World.cell?_of_block (a := ⟨b, o, none⟩) hb
  exact ⟨nm, A', c, (ce _).trans q0, (ce _).trans q1, (ce _).trans q2, (ce _).trans q3, (ce _).trans q4, q5.keep (fun b o hc => ne (by decide) hc) hs (by have := hop.cases; omega)⟩
theorem pass_0 (w : World) : (Instr.index 125 (.agg #[.int .i64 1, .func (.func 52) #[] #[], .int .i64 4, .func (.func 53) #[] #[], .int .i64 8, .func (.func 54) #[] #[], .int .i64 2, .func (.func 55) #[] #[]]) (.int .i64 0)).run Tryz.prog w = .ok (.agg #[.int .i64 1, .func (.func 52) #[] #[]]) w := by kernel_rfl
theorem pass_1 (w : World) : (Instr.index 125 (.agg #[.int .i64 1, .func (.func 52) #[] #[], .int .i64 4, .func (.func 53) #[] #[], .int .i64 8, .func (.func 54) #[] #[], .int .i64 2, .func (.func 55) #[] #[]]) (.int .i64 1)).run Tryz.prog w = .ok (.agg #[.int .i64 4, .func (.func 53) #[] #[]]) w := by kernel_rfl
theorem pass_2 (w : World) : (Instr.index 125 (.agg #[.int .i64 1, .func (.func 52) #[] #[], .int .i64 4, .func (.func 53) #[] #[], .int .i64 8, .func (.func 54) #[] #[], .int .i64 2, .func (.func 55) #[] #[]]) (.int .i64 2)).run Tryz.prog w = .ok (.agg #[.int .i64 8, .func (.func 54) #[] #[]]) w := by kernel_rfl
theorem pass_3 (w : World) : (Instr.index 125 (.agg #[.int .i64 1, .func (.func 52) #[] #[], .int .i64 4, .func (.func 53) #[] #[], .int .i64 8, .func (.func 54) #[] #[], .int .i64 2, .func (.func 55) #[] #[]]) (.int .i64 3)).run Tryz.prog w = .ok (.agg #[.int .i64 2, .func (.func 55) #[] #[]]) w := by kernel_rfl
/-- The passes' state: the graph's block, the answer's, a graph. -/
structure RuSt (w wr : World) (An Ai Ao : Option Addr) (cn ci co : Nat) (l : List Op1) (x : Int) : Prop where
  fx : Fx w wr [some (.cells #[.string ⟨#[]⟩, .slice An l.length cn, .slice Ai 1 ci, .slice Ao l.length co, .slice none 0 0] 33), some (.cells #[.string ⟨#[]⟩, .slice none 0 0, .slice none 0 0, .slice none 0 0, .slice none 0 0] 33)]
  fl : FlatG wr An Ai Ao l x
theorem RuSt.come {w wr w7 : World} {An Ai Ao An' Ai' Ao' : Option Addr} {cn ci co cn' ci' co' : Nat} {l : List Op1} {x : Int} (h : RuSt w wr An Ai Ao cn ci co l x) (hg : Gl w) (hs : Since wr w7) (hf : FlatG w7 An' Ai' Ao' l x) :
    RuSt w (((((w7.setCell ⟨w.heap.size, 0, none⟩ (.string ⟨#[]⟩)).setCell ⟨w.heap.size, 1, none⟩ (.slice An' l.length cn')).setCell ⟨w.heap.size, 2, none⟩ (.slice Ai' 1 ci')).setCell ⟨w.heap.size, 3, none⟩ (.slice Ao' l.length co')).setCell ⟨w.heap.size, 4, none⟩ (.slice none 0 0)) An' Ai' Ao' cn' ci' co' l x := by
  have h7 := h.fx.all hs
  have z7 := h7.size
  simp at z7
  refine put5 (F := fun W => RuSt w W An' Ai' Ao' cn' ci' co' l x) (h7.b0 rfl) ?_
  intro w9 g9 hk9 hb9 hz9
  have hB : Below w.heap.size w w9 := h7.below.trans hb9
  refine ⟨⟨hB, by simp; omega, fun i o e => ?_⟩, hf.grow (h7.b0 rfl) (by simp) (by simp; intro s h e; exact h e.symm) hk9 (by omega) (hg.below hB)⟩
  match i, e with
  | 0, e => cases e; exact g9
  | 1, e => exact (hk9 _ (by omega)).trans (h7.at_ 1 _ e)
theorem RuSt.since {w wr w' : World} {An Ai Ao : Option Addr} {cn ci co : Nat} {l : List Op1} {x : Int} (h : RuSt w wr An Ai Ao cn ci co l x) (hs : Since wr w') : RuSt w w' An Ai Ao cn ci co l x := ⟨h.fx.all hs, h.fl.below hs⟩
set_option maxHeartbeats 3200000 in
theorem run_any (An Ai Ao : Option Addr) (cn ci co : Nat) (l : List Op1) (x : Int) (w : World) (h : FlatG w An Ai Ao l x) (hmany : ∀ o ∈ l, Ops1 o.op → 1 < l.length) (mask : Nat) (hm : mask ≤ 15) :
    Calls Tryz.prog 25 #[.agg #[.string ⟨#[]⟩, .slice An l.length cn, .slice Ai 1 ci, .slice Ao l.length co, .slice none 0 0], .int .i64 mask] w (PassIs ⟨#[]⟩ l x w) := by
  have H := Lib.hid h
  have HM := Lib.hid hmany
  have hmi : (mask : Int) ≤ 15 := by omega
  clear h hmany
  go_enter Tryz.func25, Tryz.ntmps25
  go_wp2_with fail
  refine newX2 (F := fun W => Calls _ _ _ W _) ?_
  intro w1 h1
  refine (all_any ⟨#[]⟩ An Ai Ao cn ci co l x w1 (H.out.below h1.below)).mono ?_
  rintro e w2 ⟨A, c, rfl, hv, hb⟩
  have h2 := h1.all hb
  clear hb h1 hv
  have HX := Lib.hid h2
  obtain ⟨r0, r1, r2, r3, r4, -⟩ := cells5 (h2.b0 rfl)
  clear h2
  go_wp2_with fail
  have hs0 : RuSt w (w2.alloc (.cells #[.int .i64 1, .func (.func 52) #[] #[], .int .i64 4, .func (.func 53) #[] #[], .int .i64 8, .func (.func 54) #[] #[], .int .i64 2, .func (.func 55) #[] #[]] 125)) An Ai Ao cn ci co l x := ⟨HX.out.new _, H.out.below (HX.out.new _).below⟩
  have HS0 := Lib.hid hs0
  clear r0 r1 r2 r3 r4 hs0
  go_loopw [9, 35] (fun d i wr => ∃ k : Nat, k ≤ 4 ∧ i = .int .i64 k ∧ (∃ b, d = .bool b) ∧ ∃ An Ai Ao cn ci co, RuSt w wr An Ai Ao cn ci co l x) (fun _ i _ => 4 - (intOf i).toNat)
  case atStart => exact ⟨0, by omega, rfl, ⟨_, rfl⟩, _, _, _, _, _, _, HS0.out⟩
  case round =>
    obtain ⟨k, hk, rfl, ⟨d, rfl⟩, An', Ai', Ao', cn', ci', co', hs⟩ := hrel
    by_cases hlt : k < 4
    · have hki : (k : Int) < 4 := by omega
      have HS := Lib.hid hs
      obtain ⟨r0, r1, r2, r3, r4, f0, f1, f2, f3, f4⟩ := cells5 (hs.fx.b0 rfl)
      have n1 : w.heap.size < wr.heap.size := by have := hs.fx.size; simp at this; omega
      have i0 := pass_0
      have i1 := pass_1
      have i2 := pass_2
      have i3 := pass_3
      clear hs
      obtain ⟨k1, hk1⟩ : ∃ k1, k1 = k + 1 := ⟨_, rfl⟩
      rcases (show k = 0 ∨ k = 1 ∨ k = 2 ∨ k = 3 by omega) with rfl | rfl | rfl | rfl
      all_goals
        go_wp2_with (first
          | (go_at_call 52; refine (fold_any _ _ _ _ _ _ _ l x _ (HS.out.fl.below (below_new _ _))).mono ?_; rintro e w7 ⟨A1, A2, A3, c1, c2, c3, rfl, hf7, hb7⟩; have hs7 := ((Since.refl wr).al _).trans hb7; obtain ⟨r0, r1, r2, r3, r4, f0, f1, f2, f3, f4⟩ := cells5 ((HS.out.since hs7).fx.b0 rfl); have HF7 := Lib.hid hf7; have HS7 := Lib.hid hs7; clear hf7 hb7 hs7)
          | (go_at_call 53; refine (plain_any _ _ _ _ _ _ _ l x _ (HS.out.fl.below (below_new _ _))).mono ?_; rintro e w7 ⟨A1, A2, A3, c1, c2, c3, rfl, hf7, hb7⟩; have hs7 := ((Since.refl wr).al _).trans hb7; obtain ⟨r0, r1, r2, r3, r4, f0, f1, f2, f3, f4⟩ := cells5 ((HS.out.since hs7).fx.b0 rfl); have HF7 := Lib.hid hf7; have HS7 := Lib.hid hs7; clear hf7 hb7 hs7)
          | (go_at_call 54; refine (fuse_any _ _ _ _ _ _ _ l x _ (HS.out.fl.below (below_new _ _)) HM.out).mono ?_; rintro e w7 ⟨A1, A2, A3, c1, c2, c3, rfl, hf7, hb7⟩; have hs7 := ((Since.refl wr).al _).trans hb7; obtain ⟨r0, r1, r2, r3, r4, f0, f1, f2, f3, f4⟩ := cells5 ((HS.out.since hs7).fx.b0 rfl); have HF7 := Lib.hid hf7; have HS7 := Lib.hid hs7; clear hf7 hb7 hs7)
          | (go_at_call 55; refine (dead_any _ _ _ _ _ _ _ l x _ (HS.out.fl.below (below_new _ _))).mono ?_; rintro e w7 ⟨A1, A2, A3, c1, c2, c3, rfl, hf7, hb7⟩; have hs7 := ((Since.refl wr).al _).trans hb7; obtain ⟨r0, r1, r2, r3, r4, f0, f1, f2, f3, f4⟩ := cells5 ((HS.out.since hs7).fx.b0 rfl); have HF7 := Lib.hid hf7; have HS7 := Lib.hid hs7; clear hf7 hb7 hs7))
        all_goals
          first
            | (refine ⟨⟨k1, by omega, by rw [hk1]; rfl, ⟨_, rfl⟩, A1, A2, A3, c1, c2, c3, ?_⟩, ?_⟩
               · with_reducible exact HS.out.come H.out.gl HS7.out HF7.out
               · simp [intOf])
            | (refine ⟨⟨k1, by omega, by rw [hk1]; rfl, ⟨_, rfl⟩, An', Ai', Ao', cn', ci', co', ?_⟩, ?_⟩
               · with_reducible exact HS.out.since ((Since.refl _).al _)
               · simp [intOf])
    · obtain rfl : k = 4 := by omega
      have HS := Lib.hid hs
      obtain ⟨r0, r1, r2, r3, r4, -⟩ := cells5 (hs.fx.b0 rfl)
      have n1 : w.heap.size + 1 < wr.heap.size := by have := hs.fx.size; simp at this; omega
      have n2 : w.heap.size < wr.heap.size := by omega
      have g1 := hs.fx.b1 rfl
      obtain ⟨y0, y1, y2, y3, y4, f0, f1, f2, f3, f4⟩ := cells5 g1
      clear hs
      cases d
      · have hC := psorted_any ⟨#[]⟩ An' Ai' Ao' cn' ci' co' l x wr HS.out.fl
        go_wp2_with (go_at_call 56; refine hC.mono ?_; rintro e w7 ⟨A1, A2, A3, c1, c2, c3, rfl, hf7, hb7⟩; have g1 := (HS.out.since hb7).fx.b1 rfl; obtain ⟨y0, y1, y2, y3, y4, f0, f1, f2, f3, f4⟩ := cells5 g1; have HF7 := Lib.hid hf7; have HS7 := Lib.hid (HS.out.since hb7); clear hf7 hb7)
        refine put5 (F := fun W => bodyPost Tryz.prog Tryz.f25 (PassIs ⟨#[]⟩ l x w) Exit.ret _ W) g1 ?_
        intro w9 g9 hk9 hb9 hz9
        refine bodyPost_ret (res_row_tmp rfl _ _ (w.heap.size + 1) 33 _ (0, 0) _ rfl g9 Tryz.underlying33 rfl (by kernel_rfl)) rfl ?_
        have hB9 : Below w.heap.size w w9 := HS7.out.fx.below.trans (hb9.mono (by omega))
        exact ⟨_, _, _, _, _, _, rfl, HF7.out.zrow g1 (fun k hk => hk9 k hk) (by omega) (H.out.gl.below hB9), hB9⟩
      · go_wp2_with fail
        refine put5 (F := fun W => bodyPost Tryz.prog Tryz.f25 (PassIs ⟨#[]⟩ l x w) Exit.ret _ W) g1 ?_
        intro w9 g9 hk9 hb9 hz9
        refine bodyPost_ret (res_row_tmp rfl _ _ (w.heap.size + 1) 33 _ (0, 0) _ rfl g9 Tryz.underlying33 rfl (by kernel_rfl)) rfl ?_
        have hB9 : Below w.heap.size w w9 := HS.out.fx.below.trans (hb9.mono (by omega))
        exact ⟨_, _, _, _, _, _, rfl, HS.out.fl.zrow g1 (fun k hk => hk9 k hk) (by omega) (H.out.gl.below hB9), hB9⟩
end Go.Proofs.YtbilddeepnnogaaGreatDoor
end
