import Derived.Test.YtbilddeepnnogaaGreatDoorFgm
import Derived.Test.YtbilddeepnnogaaGreatDoorFem
set_option linter.unusedVariables false
set_option linter.unusedSimpArgs false
/- Layouts: nothing is rewritten. -/
section
set_option linter.unusedVariables false
set_option maxRecDepth 100000
namespace Go.Proofs.YtbilddeepnnogaaGreatDoor
open Go.RowKit Go.Shelf

theorem rows3 {W : World} {g : Nat} {t : TypeId} {c0 c1 c2 : Value} (h : W.heap[g]? = some (.cells #[c0, c1, c2] t (0, 0))) (j : Nat) (hj : j < 3) : ∃ u, W.cell? ⟨g, j, none⟩ = some u ∧ (u = c0 ∨ u = c1 ∨ u = c2) := by
  obtain ⟨h0, h1, h2, -⟩ := cells3 h
  match j, hj with
  | 0, _ => exact ⟨_, h0, .inl rfl⟩
  | 1, _ => exact ⟨_, h1, .inr (.inl rfl)⟩
  | 2, _ => exact ⟨_, h2, .inr (.inr rfl)⟩
set_option maxHeartbeats 1600000 in
theorem step_no (p : Nat) (An Ao : Option Addr) (cn co : Nat) (l : List Op1) (x : Int) (hl : FlatL l) (W : World) (h1 : W.cell? ⟨p, 1, none⟩ = some (.slice An l.length cn)) (h3 : W.cell? ⟨p, 3, none⟩ = some (.slice Ao l.length co)) (hn : NdAt W An l) (hv : VlAt W Ao (l.map (·.out)) x) :
    Calls Tryz.prog 102 #[.pointer (some ⟨p, 0, none⟩)] W fun e W' => e = .returned (.bool false) ∧ Since W W' := by
  have hnl : (l.length : Int) ≤ 5 := by have := hl.most; omega
  have HV := Lib.hid hv
  have HN := Lib.hid hn
  have np := World.block_lt_of_cell? W ⟨p, 1, none⟩ h1
  dsimp only at np
  have H1 := Lib.hid h1
  have H3 := Lib.hid h3
  clear hn hv h3
  go_enter Tryz.func102, Tryz.ntmps102
  go_wp2_with fail
  have h5 := fx1 W (.cells #[.func (.func 180) #[] #[], .func (.func 181) #[] #[], .func (.func 182) #[] #[]] 282)
  have H5 := Lib.hid h5
  clear h5
  go_loopw [14] (fun i wr => ∃ k : Nat, k ≤ l.length ∧ i = .int .i64 k ∧ Fx W wr [some (.cells #[.func (.func 180) #[] #[], .func (.func 181) #[] #[], .func (.func 182) #[] #[]] 282)]) (fun i _ => l.length - (intOf i).toNat)
  case atStart => exact ⟨0, by omega, rfl, H5.out⟩
  case round =>
    obtain ⟨k, hk, rfl, hs⟩ := hrel
    by_cases hlt : k < l.length
    · obtain ⟨o, ho⟩ : ∃ o, l[k]? = some o := ⟨_, List.getElem?_eq_getElem hlt⟩
      have HO := Lib.hid ho
      have HS := Lib.hid hs
      clear hs ho
      go_wp2_with fail
      go_loopw [19] (fun i wy => ∃ j : Nat, j ≤ 3 ∧ i = .int .i64 j ∧ Fx W wy [some (.cells #[.func (.func 180) #[] #[], .func (.func 181) #[] #[], .func (.func 182) #[] #[]] 282)]) (fun i _ => 3 - (intOf i).toNat)
      case atStart => exact ⟨0, by omega, rfl, HS.out⟩
      case round =>
        obtain ⟨j, hj, rfl, hs⟩ := hrel
        by_cases hj3 : j < 3
        · obtain ⟨u, hu, hor⟩ := rows3 (hs.b0 rfl) j hj3
          have hsW : Since W wr := hs.below
          have g1 := (hsW.cell (p := ⟨p, 1, none⟩) np).trans H1.out
          have g3 := (hsW.cell (p := ⟨p, 3, none⟩) np).trans H3.out
          have L1 := Lib.hid (leave_no p An Ao cn co l x hl wr k o HO.out g1 g3 (HN.out.below hsW) (HV.out.below hsW))
          have L2 := Lib.hid (turn_no p An cn l hl wr k o HO.out g1 (HN.out.below hsW))
          have L3 := Lib.hid (reshape_no p An cn l hl wr k o HO.out g1 (HN.out.below hsW))
          have HS2 := Lib.hid hs
          have hji : (j : Int) < 3 := by omega
          clear hs hsW g1 g3
          rcases hor with rfl | rfl | rfl
          · go_wp2_with (go_at_call 180; refine L1.out.mono ?_; rintro e w3 ⟨rfl, hs3⟩)
            go_roundw
            case rel => exact ⟨j + 1, by omega, by go_num, HS2.out.all hs3⟩
            case measure => simp [intOf]; omega
          · go_wp2_with (go_at_call 181; refine L2.out.mono ?_; rintro e w3 ⟨rfl, hs3⟩)
            go_roundw
            case rel => exact ⟨j + 1, by omega, by go_num, HS2.out.all hs3⟩
            case measure => simp [intOf]; omega
          · go_wp2_with (go_at_call 182; refine L3.out.mono ?_; rintro e w3 ⟨rfl, hs3⟩)
            go_roundw
            case rel => exact ⟨j + 1, by omega, by go_num, HS2.out.all hs3⟩
            case measure => simp [intOf]; omega
        · obtain rfl : j = 3 := by omega
          have HS2 := Lib.hid hs
          clear hs
          go_wp2_with fail
          go_roundw
          case rel => exact ⟨k + 1, by omega, by go_num, HS2.out⟩
          case measure => simp [intOf]; omega
    · obtain rfl : k = l.length := by omega
      have HS := Lib.hid hs
      clear hs
      go_wp2_with fail
      go_ret
      exact ⟨rfl, HS.out.below⟩
end Go.Proofs.YtbilddeepnnogaaGreatDoor
end
/- Layouts: the pass, over what its beginning leaves. -/
section
set_option linter.unusedVariables false
set_option maxRecDepth 100000
namespace Go.Proofs.YtbilddeepnnogaaGreatDoor
open Go.RowKit Go.Shelf

/-- What begin leaves: a block that holds the copied graph and a map. -/
def BegIs (gn : ByteArray) (l : List Op1) (x : Int) (w : World) (e : Ending) (w' : World) : Prop := ∃ p M An Ai Ao cn ci co, e = .returned (.tuple #[.pointer (some ⟨p, 0, none⟩), .int .i64 0]) ∧ w'.heap[p]? = some (.cells #[.string gn, .slice An l.length cn, .slice Ai 1 ci, .slice Ao l.length co, .slice none 0 0, M] 207 (0, 0)) ∧ FlatG w' An Ai Ao l x ∧ w.heap.size ≤ p ∧ Below w.heap.size w w'
set_option maxHeartbeats 3200000 in
theorem plain_of (gn : ByteArray) (An Ai Ao : Option Addr) (cn ci co : Nat) (l : List Op1) (x : Int) (w : World) (h : FlatG w An Ai Ao l x)
    (hB : ∀ w, FlatG w An Ai Ao l x → Calls Tryz.prog 101 #[.agg #[.string gn, .slice An l.length cn, .slice Ai 1 ci, .slice Ao l.length co, .slice none 0 0]] w (BegIs gn l x w)) :
    Calls Tryz.prog 53 #[.agg #[.string gn, .slice An l.length cn, .slice Ai 1 ci, .slice Ao l.length co, .slice none 0 0]] w (PassIs gn l x w) := by
  have H := Lib.hid h
  have HBB := Lib.hid hB
  clear h hB
  go_enter Tryz.func53, Tryz.ntmps53
  go_wp2_with fail
  refine newX2 (F := fun W => Calls _ _ _ W _) ?_
  intro w1 h1
  refine (HBB.out w1 (H.out.below h1.below)).mono ?_
  rintro e w2 ⟨p, M, An', Ai', Ao', cn', ci', co', rfl, hp, hf, hpl, hb⟩
  have h2 := h1.all hb
  have HF := Lib.hid hf
  have HX := Lib.hid h2
  have HP := Lib.hid hp
  have npl : w.heap.size + 2 ≤ p := by have := h1.size; simp at this; omega
  obtain ⟨r0, r1, r2, r3, r4, r5⟩ := cells6 hp
  have HR := Lib.hid (And.intro r1 r3)
  clear hf h2 h1 hp hb
  go_wp2_with fail
  refine wp_loop_rounds 1 ?_
  rw [rounds_succ]
  go_wp2_with fail
  refine (step_no p An' Ao' cn' co' l x HF.out.ok w2 HR.out.1 HR.out.2 HF.out.nodes HF.out.outs).mono ?_
  rintro e w3 ⟨rfl, hs⟩
  have g1 := (HX.out.all hs).b1 rfl
  obtain ⟨y0, y1, y2, y3, y4, k0, k1, k2, k3, k4⟩ := cells5 g1
  obtain ⟨s0, s1, s2, s3, s4, s5⟩ := cells6 (hs.kp HP.out)
  have HFl := Lib.hid (HF.out.below hs)
  have HB3 := Lib.hid (HX.out.all hs).below
  have G1 := Lib.hid g1
  have n1 : p ≠ w.heap.size + 1 := by omega
  clear r0 r1 r2 r3 r4 r5 hs g1
  go_wp2_with fail
  refine put5 (F := fun W => bodyPost Tryz.prog Tryz.f53 (PassIs gn l x w) Exit.ret _ W) G1.out ?_
  intro w9 g9 hk9 hb9 hz9
  refine bodyPost_ret (res_row_tmp rfl _ _ (w.heap.size + 1) 33 _ (0, 0) _ rfl g9 Tryz.underlying33 rfl (by kernel_rfl)) rfl ?_
  have hB9 : Below w.heap.size w w9 := HB3.out.trans (hb9.mono (by omega))
  exact ⟨_, _, _, _, _, _, rfl, HFl.out.zrow G1.out (fun k hk => hk9 k hk) (by omega) (H.out.gl.below hB9), hB9⟩
end Go.Proofs.YtbilddeepnnogaaGreatDoor
end
/- Layouts: their beginning, first part. -/
section
set_option linter.unusedVariables false
set_option maxRecDepth 100000
namespace Go.Proofs.YtbilddeepnnogaaGreatDoor
open Go.RowKit Go.Shelf

/-- The block has been laid, its map is empty, its values are there. -/
structure Sb (w2 wr : World) (gn : ByteArray) (H M : Nat) (Ai Ao : Option Addr) (ci co : Nat) (l : List Op1) (x : Int) : Prop where
  since : Since w2 wr
  ge : w2.heap.size ≤ H
  lt : H < wr.heap.size
  row : wr.heap[H]? = some (.cells #[.string gn, .slice none 0 0, .slice Ai 1 ci, .slice Ao l.length co, .slice none 0 0, .map (some M)] 207 (0, 0))
  map : wr.heap[M]? = some (.map #[] 0)
  mge : w2.heap.size ≤ M
  mlt : M < H
  ins : VlX wr (fun k => k ≠ H ∧ k ≠ M) Ai [⟨#[120]⟩] x
  outs : VlX wr (fun k => k ≠ H ∧ k ≠ M) Ao (l.map (·.out)) x
theorem sb_of {w2 W W' wi wo wf : World} {gn : ByteArray} {M : Nat} {Ai Ao : Option Addr} {ci co : Nat} {l : List Op1} {x : Int} (hi : VlC w2 W wi Ai [⟨#[120]⟩] x) (ho : VlC w2 W' wo Ao (l.map (·.out)) x) (h1 : Since wi wf) (h2 : Since wo wf) (hm : wf.heap[M]? = some (.map #[] 0)) (mg : w2.heap.size ≤ M) (m1 : M < W.heap.size ∨ wi.heap.size ≤ M) (m2 : M < W'.heap.size ∨ wo.heap.size ≤ M) :
    Sb w2 (wf.alloc (.cells #[.string gn, .slice none 0 0, .slice Ai 1 ci, .slice Ao l.length co, .slice none 0 0, .map (some M)] 207)) gn wf.heap.size M Ai Ao ci co l x := by
  have z1 := h1.size
  have z2 := h2.size
  have b1 := hi.base.size
  have b2 := ho.base.size
  have y1 := hi.since.size
  have hml : M < wf.heap.size := (Array.getElem?_eq_some_iff.1 hm).1
  exact ⟨(hi.base.trans (hi.since.trans h1)).al _, by omega, by simp, heap_alloc_new wf _, (Below.heap_alloc _ _ _ hml).trans hm, mg, hml,
    (hi.vl.mono (fun k hk hz => by omega)).below (h1.al _), (ho.vl.mono (fun k hk hz => by omega)).below (h2.al _)⟩
theorem sb_new {w2 W W' wi wo : World} {gn : ByteArray} {Ai Ao : Option Addr} {ci co : Nat} {l : List Op1} {x : Int} (hi : VlC w2 W wi Ai [⟨#[120]⟩] x) (ho : VlC w2 W' wo Ao (l.map (·.out)) x) (h1 : Since wi wo) :
    Sb w2 ((wo.alloc (.map #[] 0)).alloc (.cells #[.string gn, .slice none 0 0, .slice Ai 1 ci, .slice Ao l.length co, .slice none 0 0, .map (some wo.heap.size)] 207)) gn (wo.heap.size + 1) wo.heap.size Ai Ao ci co l x := by
  have z1 := h1.size
  have b2 := ho.base.size
  have y2 := ho.since.size
  have q := sb_of (gn := gn) (ci := ci) (co := co) hi ho (h1.al (.map #[] 0)) ((Since.refl _).al (.map #[] 0)) (heap_alloc_new _ _) (by omega) (.inr (by omega)) (.inr (by omega))
  rwa [show (wo.alloc (.map #[] 0)).heap.size = wo.heap.size + 1 by simp] at q
/-- The block as it stands when the nodes come. -/
structure Sc (w2 wr : World) (gn : ByteArray) (H M : Nat) (Ai Ao : Option Addr) (ci co : Nat) (l : List Op1) (x : Int) : Prop where
  ge : w2.heap.size ≤ H
  lt : H < wr.heap.size
  row : wr.heap[H]? = some (.cells #[.string gn, .slice none 0 0, .slice Ai 1 ci, .slice Ao l.length co, .slice none 0 0, .map (some M)] 207 (0, 0))
  ins : VlX wr (fun k => k ≠ H) Ai [⟨#[120]⟩] x
  outs : VlX wr (fun k => k ≠ H) Ao (l.map (·.out)) x
theorem Sc.later {w2 wr w' : World} {gn : ByteArray} {H M : Nat} {Ai Ao : Option Addr} {ci co : Nat} {l : List Op1} {x : Int} (h : Sc w2 wr gn H M Ai Ao ci co l x) (hb : Since wr w') : Sc w2 w' gn H M Ai Ao ci co l x :=
  ⟨h.ge, Nat.lt_of_lt_of_le h.lt hb.size, (hb.block H h.lt).trans h.row, h.ins.below hb, h.outs.below hb⟩
theorem Sc.gb {w2 wr : World} {gn : ByteArray} {H M : Nat} {Ai Ao : Option Addr} {ci co : Nat} {l : List Op1} {x : Int} (h : Sc w2 wr gn H M Ai Ao ci co l x) : Gb wr wr 207 [.map (some M)] gn H Ai Ao ci co l 0 :=
  ⟨Only.refl _ _, h.lt, _, h.row, oz_nil⟩
set_option maxHeartbeats 6400000 in
theorem begin_any (gn : ByteArray) (An Ai Ao : Option Addr) (cn ci co : Nat) (l : List Op1) (x : Int) (w : World) (h : FlatG w An Ai Ao l x) :
    Calls Tryz.prog 101 #[.agg #[.string gn, .slice An l.length cn, .slice Ai 1 ci, .slice Ao l.length co, .slice none 0 0]] w (BegIs gn l x w) := by
  have H := Lib.hid h
  have H5 := h.ok.most
  have H0 := h.ok.pos
  have hnl : (l.length : Int) ≤ 5 := by omega
  have hmm := @run_makeMap Tryz.prog
  clear h
  go_enter Tryz.func101, Tryz.ntmps101
  go_wp2_with fail
  refine newX1 (F := fun W => Calls _ _ _ W _) ?_
  intro w1 h1
  refine (all_any gn An Ai Ao cn ci co l x w1 (H.out.below h1.below)).mono ?_
  rintro e w2 ⟨A, c, rfl, hv, hb⟩
  have h2 := h1.all hb
  clear hb h1
  have HX := Lib.hid h2
  have HV := Lib.hid hv
  obtain ⟨r0, r1, r2, r3, r4, -⟩ := cells5 (h2.b0 rfl)
  have HKS := Lib.hid (show ∀ W, Since w2 W → (W.cell? ⟨w.heap.size, 0, none⟩ = some (.string gn) ∧ W.cell? ⟨w.heap.size, 2, none⟩ = some (.slice Ai 1 ci) ∧ W.cell? ⟨w.heap.size, 3, none⟩ = some (.slice Ao l.length co) ∧ W.cell? ⟨w.heap.size, 4, none⟩ = some (.slice none 0 0)) from fun W hW => by
    obtain ⟨e0, e1, e2, e3, e4, -⟩ := cells5 ((HX.out.all hW).b0 rfl)
    exact ⟨e0, e2, e3, e4⟩)
  have HCi := Lib.hid (fun W (hs : Since w2 W) => ownC177 (c := ci) (W := W) (ns := [⟨#[120]⟩]) (n := 1) rfl (H.out.below h2.below).ins hs (by omega) (by omega))
  have HCo := Lib.hid (fun W (hs : Since w2 W) => ownC177 (c := co) (W := W) (ns := l.map (·.out)) (n := l.length) (by simp) (H.out.below h2.below).outs hs H0 H5)
  clear hv h2
  go_wp2_with fail
  go_cut [6] from 22 to 36 (fun v6 wx => ∃ N M Ai' Ao' ci' co', v6 = .pointer (some ⟨N, 0, none⟩) ∧ Sb w2 wx gn N M Ai' Ao' ci' co' l x)
  case first =>
    go_region_held3 (fun W => (W.cell? ⟨w.heap.size, 0, none⟩ = some (.string gn) ∧ W.cell? ⟨w.heap.size, 2, none⟩ = some (.slice Ai 1 ci) ∧ W.cell? ⟨w.heap.size, 3, none⟩ = some (.slice Ao l.length co) ∧ W.cell? ⟨w.heap.size, 4, none⟩ = some (.slice none 0 0)) ∧ Since w2 W)
      (first
        | exact ⟨HKS.out _ (Since.refl _).dr, (Since.refl _).dr⟩
        | (refine (fun h => ⟨HKS.out _ h, h⟩) ?_; first | with_reducible assumption | with_reducible exact ((Since.refl _).al _).dr | with_reducible exact (Since.al (And.right (a := _ ∧ _) (by with_reducible assumption)) _) | with_reducible exact (Since.al' (And.right (a := _ ∧ _) (by with_reducible assumption)) (by omega) _) | with_reducible exact hi.base.trans hi.since | with_reducible exact ho.base.trans ho.since))
      (first
        | (go_at_call 177; (with_reducible refine (HCi.out _ (by first | with_reducible assumption | exact And.right (a := _ ∧ _) (by with_reducible assumption))).mono ?_); rintro e wi ⟨Ai', ci', rfl, hi⟩; have zi := hi.base.size; have yi := hi.since.size; (first | (with_reducible have g9 := hi.since.nw) | (with_reducible have g9 := hi.since.nw') | (with_reducible have g9 := hi.since.kp g9) | skip))
        | (go_at_call 177; (with_reducible refine (HCo.out _ (by first | with_reducible assumption | exact And.right (a := _ ∧ _) (by with_reducible assumption))).mono ?_); rintro e wo ⟨Ao', co', rfl, ho⟩; have zo := ho.base.size; have yo := ho.since.size; (first | (with_reducible have g9 := ho.since.nw) | (with_reducible have g9 := ho.since.nw') | (with_reducible have g9 := ho.since.kp g9) | skip))
        | (go_at_call 119; (with_reducible refine (clone119 _ _).mono ?_); rintro e w3 ⟨rfl, rfl⟩))
    all_goals
      go_wp2_with fail
      go_meet
      first
        | exact ⟨_, _, _, _, _, _, rfl, sb_new hi ho ho.since⟩
        | exact ⟨_, _, _, _, _, _, rfl, sb_of hi ho (ho.since.al _) ((Since.refl _).al _) (heap_alloc_new _ _) (by omega) (.inr (by omega)) (.inr (by omega))⟩
        | exact ⟨_, _, _, _, _, _, rfl, sb_of hi ho ho.since (Since.refl _) g9 (by omega) (by first | exact .inl (by first | omega | exact lt_new _ _ | exact Nat.lt_of_lt_of_le (lt_new _ _) (by omega) | exact Nat.lt_of_lt_of_le (lt_new' _ _) (by omega)) | exact .inr (by omega)) (by first | exact .inl (by first | omega | exact lt_new _ _ | exact Nat.lt_of_lt_of_le (lt_new _ _) (by omega) | exact Nat.lt_of_lt_of_le (lt_new' _ _) (by omega)) | exact .inr (by omega))⟩
        | exact ⟨_, _, _, _, _, _, rfl, sb_of hi ho (((Since.refl _).al _).trans ho.since) (Since.refl _) g9 (by omega) (by first | exact .inl (by first | omega | exact lt_new _ _ | exact Nat.lt_of_lt_of_le (lt_new _ _) (by omega) | exact Nat.lt_of_lt_of_le (lt_new' _ _) (by omega)) | exact .inr (by omega)) (by first | exact .inl (by first | omega | exact lt_new _ _ | exact Nat.lt_of_lt_of_le (lt_new _ _) (by omega) | exact Nat.lt_of_lt_of_le (lt_new' _ _) (by omega)) | exact .inr (by omega))⟩
  case rest =>
    obtain ⟨N, M, Ai', Ao', ci', co', rfl, hsb⟩ := hcut
    have HSB := Lib.hid hsb
    have nN : N < wc.heap.size := hsb.lt
    have nM := hsb.mlt
    have hmap := hsb.map
    clear hsb HKS HCi HCo r0 r1 r2 r3 r4
    go_wp2_with fail
    go_loopw [39] (fun i wr => ∃ (k : Nat) (f : ByteArray → Option Value) (n : Nat), k ≤ l.length + 1 ∧ i = .int .i64 k ∧ Only M wc wr ∧ MapIs wr M f n ∧ n ≤ k) (fun i _ => l.length + 1 - (intOf i).toNat)
    case atStart => exact ⟨0, _, 0, by omega, rfl, Only.refl _ _, mapIs_new hmap, by omega⟩
    case round =>
      obtain ⟨k, f, n, hk, rfl, hs, hm, hn⟩ := hrel
      by_cases hlt : k < l.length + 1
      · have hsw : Since w2 wr := Below.trans HSB.out.since (hs.below HSB.out.mge (by have := HSB.out.lt; have := HSB.out.ge; omega))
        obtain ⟨bv, offv, rfl, hbv, hcv⟩ := HV.out.below hsw
        obtain ⟨s, hs'⟩ : ∃ s, (⟨#[120]⟩ :: l.map (·.out))[k]? = some s := ⟨_, List.getElem?_eq_getElem (by simpa using hlt)⟩
        obtain ⟨Ad, cd, q0, q1, q2, q3⟩ := hcv k s hs'
        have hss : s.size ≤ 1000 := by
          rcases List.mem_cons.1 (List.mem_of_getElem? hs') with rfl | hmem
          · decide
          · obtain ⟨o, ho, rfl⟩ := List.mem_map.1 hmem
            exact H.out.ok.short o ho
        have hgN := (hs.block N nN (by omega)).trans HSB.out.row
        obtain ⟨s0, s1, s2, s3, s4, s5⟩ := cells6 hgN
        have hb1 := ((Since.refl wr).al (.cells #[.string s, .int .i64 6, .slice Ad 1 cd] 28)).dr
        obtain ⟨w5, hp, hm5, hg5⟩ := (hm.below hb1).put Tryz.underlying205 hss (by omega) (.slice Ad 1 cd)
        have ho5 := grown_only hg5
        have HM5 := Lib.hid hm5
        have HO5 := Lib.hid (show Only M wc w5 from (hs.alloc (.cells #[.string s, .int .i64 6, .slice Ad 1 cd] 28)).drew.trans ho5)
        have hn5 : (if (f s).isSome then n else n + 1) ≤ k + 1 := by split <;> omega
        have HN5 := Lib.hid hn5
        have hki : (k : Int) < (l.length : Int) + 1 := by omega
        have gN : N < wr.heap.size := Nat.lt_of_lt_of_le nN hs.size
        clear hs hm hcv q3 hs' hb1 hg5 ho5 hm5 hn5 hn hsw hgN
        go_wp2_with fail
        go_region
        all_goals
          go_wp2_with fail
          go_roundw
          case rel => exact ⟨k + 1, _, _, by omega, by go_num, HO5.out, HM5.out, HN5.out⟩
          case measure => simp [intOf]; omega
      · obtain rfl : k = l.length + 1 := by omega
        have hsw : Since w2 wr := Below.trans HSB.out.since (hs.below HSB.out.mge (by have := HSB.out.lt; have := HSB.out.ge; omega))
        have hgN := (hs.block N nN (by omega)).trans HSB.out.row
        obtain ⟨s0, s1, s2, s3, s4, s5⟩ := cells6 hgN
        have hfx := HX.out.all hsw
        obtain ⟨r0, r1, r2, r3, r4, -⟩ := cells5 (hfx.b0 rfl)
        have hO := order_any gn An Ai Ao cn ci co l x wr (H.out.below hfx.below)
        have HSC := Lib.hid (show Sc w2 wr gn N M Ai' Ao' ci' co' l x from ⟨HSB.out.ge, Nat.lt_of_lt_of_le nN hs.size, hgN, (HSB.out.ins.keep (fun k hk hz => hs.block k hk hz.2) hs.size).mono (fun k _ hz => hz.1), (HSB.out.outs.keep (fun k hk hz => hs.block k hk hz.2) hs.size).mono (fun k _ hz => hz.1)⟩)
        have HFX := Lib.hid hfx
        have hd : ¬ (((l.length + 1 : Nat) : Int) < (l.length : Int) + 1) := by omega
        clear hs hm hn hlt hsw hgN hfx
        go_wp2_with fail
        refine wp_loop_rounds 1 ?_
        rw [rounds_succ]
        go_wp2_with fail
        refine hO.mono ?_
        rintro e wq ⟨Aq, cq, rfl, hq, hb⟩
        have HSG2 := Lib.hid (HSC.out.later hb)
        have HFX2 := Lib.hid (HFX.out.all hb)
        have HQ := Lib.hid hq
        clear hO hq hb HFX r0 r1 r2 r3 r4 s0 s1 s2 s3 s4 s5 hd
        go_wp2_with fail
        go_loopw [87] (fun i wr => ∃ k : Nat, k ≤ l.length ∧ i = .int .i64 k ∧ Gb wq wr 207 [.map (some M)] gn N Ai' Ao' ci' co' l k) (fun i _ => l.length - (intOf i).toNat)
        case atStart => exact ⟨0, by omega, rfl, HSG2.out.gb⟩
        case round =>
          obtain ⟨k, hk, rfl, hs⟩ := hrel
          have hlo := hs.only.size
          obtain ⟨v, hrow, hoz⟩ := hs.row
          obtain ⟨Av, cv, hv⟩ := hoz.form
          rw [List.length_take, Nat.min_eq_left hk] at hv
          subst hv
          have hrow : wr.heap[N]? = some (.cells #[.string gn, .slice Av k cv, .slice Ai' 1 ci', .slice Ao' l.length co', .slice none 0 0, .map (some M)] 207 (0, 0)) := hrow
          have hNg := HSG2.out.ge
          have hN2 := HX.out.size
          simp only [List.length_cons, List.length_nil] at hN2
          have hfx := HFX2.out.later (hs.only.below (B := w.heap.size + 1) (by omega) (by have := HFX2.out.size; simpa using this))
          by_cases hlt : k < l.length
          · have hF := H.out.below hfx.below
            obtain ⟨bq, oq, rfl, hbq, hcq⟩ := HQ.out
            have hbN : bq ≠ N := ne_of_int HSG2.out.row (by simp) (hcq 0 (by omega))
            have cq0 := (World.cell?_of_block (a := ⟨bq, oq + k, none⟩) (hs.only.block bq hbq hbN)).trans (hcq k hlt)
            obtain ⟨bn, offn, rfl, hbn, hcn⟩ := hF.nodes
            obtain ⟨o, ho⟩ : ∃ o, l[k]? = some o := ⟨_, List.getElem?_eq_getElem hlt⟩
            have hmem := List.mem_of_getElem? ho
            obtain ⟨nm, A', c', q0, q1, q2, q3, q4, q5⟩ := hcn k o ho
            obtain ⟨r0, r1, r2, r3, r4, -⟩ := cells5 (hfx.b0 rfl)
            obtain ⟨s0, s1, s2, s3, s4, s5⟩ := cells6 hrow
            have f1 := frozen_row hrow 1
            have HOZ := Lib.hid hoz
            have HROW := Lib.hid hrow
            have HS := Lib.hid hs
            have HC := Lib.hid (ownN179 o.op nm o.out A' o.m c' wr.drew (show Xs wr.drew A' o.m from q5) (hF.ok.ops o hmem).cases)
            have HO := Lib.hid ho
            clear hs hfx hF hcq hcn hoz hrow q5 ho hmem hbN
            have gN : N < wr.heap.size := by have := HSG2.out.lt; omega
            obtain ⟨i37, hi37⟩ : ∃ i, Tryz.prog.info? 37 = some i ∧ i.zero = some (.agg #[.string ⟨#[]⟩, .string ⟨#[]⟩, .slice none 0 0, .string ⟨#[]⟩, .slice none 0 0]) ∧ i.size = 5 ∧ i.bytes = 96 := by
              obtain ⟨i, h1, h2, h3, h4⟩ := info_parts Tryz.info37
              exact ⟨i, h1, h2, h3, h4⟩
            have HI := Lib.hid hi37
            clear hi37
            go_wp2_with fail
            first | (go_region_law (first
              | (go_simp; go_at_call 179; refine HC.out.mono ?_; rintro e w5 ⟨A5, c5, rfl, hx5, hb5⟩; have hsi : Since wr w5 := Below.trans (Since.refl wr).dr hb5; have g5 := hsi.kp HROW.out; obtain ⟨b5, o5, rfl, j0, j1, j2⟩ := hx5; have j0' : wr.heap.size ≤ b5 := j0; have p1 : w5.cell? ⟨N, 1, none⟩ = some (.slice Av k cv) := cell_of_row _ _ 1 _ 207 (0, 0) g5; have gl : N < w5.heap.size := Nat.lt_of_lt_of_le gN hsi.size; have p1a : (w5.alloc (.cells #[.string o.op, .string nm, .slice (some ⟨b5, o5, none⟩) o.m c5, .string o.out, .slice none 0 0] 37)).cell? ⟨N, 1, none⟩ = some (.slice Av k cv) := (World.cell?_alloc_lt w5 _ _ gl).trans p1; have HZ5 := Lib.hid (HOZ.out.below hsi); have z5 := hsi.size; have HSI := Lib.hid hsi; have G5 := Lib.hid g5; clear hb5 hsi g5; dsimp only)
              | (refine step_append_z w5 repNx o [.string o.op, .string nm, .slice (some ⟨b5, o5, none⟩) o.m c5, .string o.out, .slice none 0 0] rfl (.tmp 96) (.tmp 103) 30 rfl 37 i37 _ 96 Tryz.underlying30 HI.out.1 HI.out.2.1 HI.out.2.2.1 HI.out.2.2.2 rfl (by decide) (by decide) wq.heap.size (.slice Av k cv) (l.take k) rfl HZ5.out (fun j => j = b5) ⟨nm, b5, o5, c5, rfl, rfl, j1, j2⟩ (by rintro j rfl; refine ⟨by omega, j1, fun e => ?_⟩; have := (HOZ.out.row_lt _ e).2; omega) w5.heap.size rfl rfl (by rw [List.length_take]; omega) (by omega) ?_; intro v' w7 hz7 hg7; obtain ⟨A7, c7, e7⟩ := hz7.form; rw [List.length_append, List.length_take, Nat.min_eq_left hk] at e7; subst e7; have g7 := (hg7.block N gl (fun e => by have := (HOZ.out.row_lt _ e.symm).1; have := HSG2.out.lt; omega)).trans G5.out; have y1 := cell_of_row _ _ 1 _ 207 (0, 0) g7; have yf := frozen_row g7 1; have HG7 := Lib.hid (show Gb wq (w7.setCell ⟨N, 1, none⟩ (.slice A7 (k + 1) c7)) 207 [.map (some M)] gn N Ai' Ao' ci' co' l (k + 1) from Gb.come (v := .slice Av k cv) HS.out HO.out HSI.out hz7 hg7 (fun j e => (HOZ.out.row_lt j e).1) g7); clear hz7 hg7 g7))) | fail
            all_goals
              go_wp2_with fail
              go_roundw
              case rel => exact ⟨k + 1, by omega, by go_num, HG7.out⟩
              case measure => simp [intOf]; omega
          · obtain rfl : k = l.length := by omega
            rw [List.take_length] at hoz
            have hz9 := HFX2.out.size
            simp only [List.length_cons, List.length_nil] at hz9
            have HFl := Lib.hid (Gb.flat (H := N) (g := w.heap.size) (wf := wr) hoz hs.only HSG2.out.ins HSG2.out.outs H.out.ok (H.out.gl.below hfx.below) H.out.lo H.out.hi (by omega) (hfx.b0 rfl) (by simp) (fun _ _ => rfl) (Nat.le_refl _))
            have HB := Lib.hid hfx.below
            have HROW := Lib.hid hrow
            clear hs hfx hoz hrow hlt
            go_wp2_with fail
            go_ret2
            exact ⟨N, .map (some M), _, _, _, _, _, _, rfl, HROW.out, HFl.out, by omega, HB.out⟩

end Go.Proofs.YtbilddeepnnogaaGreatDoor
end
/- Layouts: the pass. -/
section
set_option linter.unusedVariables false
namespace Go.Proofs.YtbilddeepnnogaaGreatDoor
open Go.RowKit Go.Shelf

theorem plain_any (gn : ByteArray) (An Ai Ao : Option Addr) (cn ci co : Nat) (l : List Op1) (x : Int) (w : World) (h : FlatG w An Ai Ao l x) :
    Calls Tryz.prog 53 #[.agg #[.string gn, .slice An l.length cn, .slice Ai 1 ci, .slice Ao l.length co, .slice none 0 0]] w (PassIs gn l x w) :=
  plain_of gn An Ai Ao cn ci co l x w h (fun w h => begin_any gn An Ai Ao cn ci co l x w h)
end Go.Proofs.YtbilddeepnnogaaGreatDoor
end
