import Derived.Test.YtbilddeepnnogaaGreatDoorDam
import Derived.Test.YtbilddeepnnogaaGreatDoorMam
import Derived.Deep.LoopGhost
import Derived.IntWalk
import Derived.BigQuiet
set_option linter.unusedVariables false
set_option linter.unusedSimpArgs false
/- Graphs: who makes what. -/
section
set_option linter.unusedVariables false
set_option maxRecDepth 100000
namespace Go.Proofs.YtbilddeepnnogaaGreatDoor
open Go.RowKit Go.Shelf

theorem add_any (s : ByteArray) (k : Int) (c b n : Nat) (f : ByteArray → Option Value) (w : World) (hc : w.cell? ⟨c, 0, none⟩ = some (.map (some b))) (h : MapIs w b f n) (hs : s.size ≤ 1000) (hn : n ≤ 1000) (hne : (s.toList == []) = false) (hf : f s = none) (hbc : c ≠ b) :
    Calls Tryz.prog 135 #[.string s, .int .i64 k, .pointer (some ⟨c, 0, none⟩)] w fun e w' => e = .returned (.bool true) ∧ MapIs w' b (upd f s (.int .i64 k)) (n + 1) ∧ Only b w w' := by
  obtain ⟨w2, hr, hm, hg⟩ := h.put Tryz.und142 hs hn (.int .i64 k)
  have hl := h.look2 Tryz.und142 (zero3 w) hs
  rw [hf] at hm hl
  simp only [Option.isSome_none, Bool.false_eq_true, if_false, Option.getD_none] at hm hl
  have HM := Lib.hid hm
  have HG := Lib.hid (grown_only hg)
  have hc2 : w2.cell? ⟨c, 0, none⟩ = some (.map (some b)) := (World.cell?_of_block (a := ⟨c, 0, none⟩) (hg.block c (World.block_lt_of_cell? w ⟨c, 0, none⟩ hc) (fun e => hbc (by injection e)))).trans hc
  clear hm hg h hf
  go_enter Tryz.func135, Tryz.ntmps135
  go_wp2
  go_ret
  exact ⟨rfl, HM.out, HG.out⟩

/-- Who makes what, of x and of the first k nodes' values. -/
def mkF (l : List Op1) : Nat → ByteArray → Option Value
  | 0 => upd (fun _ => none) ⟨#[120]⟩ (.int .i64 (-1))
  | k + 1 => upd (mkF l k) ((l[k]?.map (·.out)).getD ⟨#[]⟩) (.int .i64 k)
section
variable {l : List Op1}
theorem out_ne_x (h : FlatL l) {j : Nat} {o : Op1} (hj : l[j]? = some o) : o.out ≠ ⟨#[120]⟩ := fun e => (h.outs o (List.mem_of_getElem? hj)).2 (by rw [e]; kernel_rfl)
theorem mkF_x (h : FlatL l) : ∀ k, k ≤ l.length → mkF l k ⟨#[120]⟩ = some (.int .i64 (-1)) := by
  intro k
  induction k with
  | zero => intro _; simp [mkF, upd]
  | succ k ih =>
    intro hk
    obtain ⟨o, ho⟩ : ∃ o, l[k]? = some o := ⟨_, List.getElem?_eq_getElem hk⟩
    have := out_ne_x h ho
    simp only [mkF, ho, Option.map_some, Option.getD_some, upd]
    rw [if_neg (fun e => this e.symm)]
    exact ih (by omega)
theorem mkF_out (h : FlatL l) {j : Nat} {o : Op1} (hj : l[j]? = some o) : ∀ k, k ≤ l.length → mkF l k o.out = if j < k then some (.int .i64 j) else none := by
  intro k
  induction k with
  | zero => intro _; simp [mkF, upd, out_ne_x h hj]
  | succ k ih =>
    intro hk
    obtain ⟨p, hp⟩ : ∃ p, l[k]? = some p := ⟨_, List.getElem?_eq_getElem hk⟩
    simp only [mkF, hp, Option.map_some, Option.getD_some, upd]
    by_cases e : o.out = p.out
    · have := h.apart j k o p hj hp e
      subst this
      rw [if_pos e, if_pos (by omega)]
    · rw [if_neg e, ih (by omega)]
      have : j ≠ k := by
        rintro rfl
        rw [hj] at hp
        cases hp
        exact e rfl
      by_cases q : j < k
      · rw [if_pos q, if_pos (by omega)]
      · rw [if_neg q, if_neg (by omega)]
end
set_option maxHeartbeats 1600000 in
theorem makers_any (gn : ByteArray) (An Ai Ao : Option Addr) (cn ci co : Nat) (l : List Op1) (x : Int) (w : World) (h : FlatG w An Ai Ao l x) :
    Calls Tryz.prog 62 #[.agg #[.string gn, .slice An l.length cn, .slice Ai 1 ci, .slice Ao l.length co, .slice none 0 0]] w fun e w' => ∃ b, e = .returned (.tuple #[.map (some b), .bool true]) ∧ MapIs w' b (mkF l l.length) (l.length + 1) ∧ Below w.heap.size w w' := by
  have H := Lib.hid h
  have H5 := h.ok.most
  have hmm := @run_makeMap Tryz.prog
  clear h
  go_enter Tryz.func62, Tryz.ntmps62
  go_wp2_with fail
  refine newX3 (F := fun W => Code.wp _ _ _ _ W) ?_
  intro w1 h1'
  have h1 := h1'.free [some (.cells #[.string gn, .slice An l.length cn, .slice Ai 1 ci, .slice Ao l.length co, .slice none 0 0] 33), none, some (.cells #[.map (some (w.heap.size + 1))] 142)] rfl (by intro i o e; match i, e with | 0, e => exact e | 2, e => exact e)
  have hm1 : MapIs w1 (w.heap.size + 1) (fun _ => none) 0 := mapIs_new (h1'.b1 rfl)
  obtain ⟨b, off, rfl, hb, hc⟩ := (H.out.below h1.below).ins
  obtain ⟨Ad, cd, q0, q1, q2, q3⟩ := hc 0 _ rfl
  simp only [Nat.zero_mul, Nat.add_zero] at q0 q1 q2
  have h2 := h1.new (.cells #[.string ⟨#[120]⟩, .int .i64 6, .slice Ad 1 cd] 28)
  have n1 : b < w1.heap.size + 1 := by omega
  obtain ⟨r0, r1, r2, r3, r4, -⟩ := cells5 (h2.b0 rfl)
  obtain ⟨s0, -⟩ := cells1 (h2.b2 rfl)
  have hA := add_any ⟨#[120]⟩ (-1) (w.heap.size + 2) (w.heap.size + 1) 0 _ _ s0 (hm1.below (below_new w1 (.cells #[.string ⟨#[120]⟩, .int .i64 6, .slice Ad 1 cd] 28))) (by decide) (by omega) (by kernel_rfl) rfl (by omega)
  have HS := Lib.hid h2
  clear hc q3 h1' h1 hm1 h2
  refine wp_loop_rounds 2 ?_
  rw [rounds_succ]
  go_wp2_with (go_at_call 135; refine hA.mono ?_; rintro e w2 ⟨rfl, hm2, ho⟩)
  have h2 := HS.out.only (i := 1) rfl ho
  clear hA HS ho r0 r1 r2 r3 r4 s0 q0 q1 q2 hb n1
  obtain ⟨r0, r1, r2, r3, r4, -⟩ := cells5 (h2.b0 rfl)
  rw [rounds_succ]
  go_wp2_with fail
  refine wp_loop_rounds 1 ?_
  rw [rounds_succ]
  go_wp2_with fail
  have hnl : (l.length : Int) ≤ 5 := by omega
  have H2 := Lib.hid h2
  have HM2 := Lib.hid hm2
  clear r0 r1 r2 r3 r4 h2 hm2
  go_loopw [43] (fun i wr => ∃ k : Nat, k ≤ l.length ∧ i = .int .i64 k ∧ Fx w wr [some (.cells #[.string gn, .slice An l.length cn, .slice (some ⟨b, off, none⟩) 1 ci, .slice Ao l.length co, .slice none 0 0] 33), none, some (.cells #[.map (some (w.heap.size + 1))] 142)] ∧ MapIs wr (w.heap.size + 1) (mkF l k) (k + 1)) (fun i _ => l.length - (intOf i).toNat)
  case atStart => exact ⟨0, by omega, rfl, H2.out, HM2.out⟩
  case round =>
    obtain ⟨k, hk, rfl, hs, hm⟩ := hrel
    by_cases hlt : k < l.length
    · have hF := H.out.below hs.below
      obtain ⟨bn, offn, rfl, hb, hc⟩ := hF.nodes
      obtain ⟨o, ho⟩ : ∃ o, l[k]? = some o := ⟨_, List.getElem?_eq_getElem hlt⟩
      have hmem := List.mem_of_getElem? ho
      obtain ⟨nm, A', c, q0, q1, q2, q3, q4, q5⟩ := hc k o ho
      have hs1 := hs.new (.cells #[.string o.op, .string nm, .slice A' o.m c, .string o.out, .slice none 0 0] 37)
      obtain ⟨s0, -⟩ := cells1 (hs1.b2 rfl)
      have hA := add_any o.out k (w.heap.size + 2) (w.heap.size + 1) (k + 1) _ _ s0 (hm.below (below_new wr (.cells #[.string o.op, .string nm, .slice A' o.m c, .string o.out, .slice none 0 0] 37))) (hF.ok.short o hmem) (by omega) (hF.ok.outs o hmem).1 (by rw [mkF_out hF.ok ho k hk, if_neg (by omega)]) (by omega)
      have e1 : upd (mkF l k) o.out (.int .i64 k) = mkF l (k + 1) := by simp [mkF, ho]
      rw [e1] at hA
      have HS := Lib.hid hs1
      clear hs hs1 hc q5 hF ho hmem hm e1
      go_wp2_with (go_at_call 135; refine hA.mono ?_; rintro e w3 ⟨rfl, hm3, ho⟩)
      have h3 := HS.out.only (i := 1) rfl ho
      go_roundw
      case rel => exact ⟨k + 1, by omega, by go_num, h3, hm3⟩
      case measure => simp [intOf]; omega
    · obtain rfl : k = l.length := by omega
      obtain ⟨s0, -⟩ := cells1 (hs.b2 rfl)
      go_wp2
      go_ret2
      exact ⟨_, rfl, hm, hs.below⟩
/-- The outputs that have come. -/
def onF (l : List Op1) : Nat → ByteArray → Option Value
  | 0 => fun _ => none
  | k + 1 => upd (onF l k) ((l[k]?.map (·.out)).getD ⟨#[]⟩) (.int .i64 1)
theorem onF_out {l : List Op1} (h : FlatL l) {j : Nat} {o : Op1} (hj : l[j]? = some o) : ∀ k, k ≤ l.length → onF l k o.out = if j < k then some (.int .i64 1) else none := by
  intro k
  induction k with
  | zero => intro _; simp [onF]
  | succ k ih =>
    intro hk
    obtain ⟨p, hp⟩ : ∃ p, l[k]? = some p := ⟨_, List.getElem?_eq_getElem hk⟩
    simp only [onF, hp, Option.map_some, Option.getD_some, upd]
    by_cases e : o.out = p.out
    · have := h.apart j k o p hj hp e
      subst this
      rw [if_pos e, if_pos (by omega)]
    · rw [if_neg e, ih (by omega)]
      have : j ≠ k := by
        rintro rfl
        rw [hj] at hp
        cases hp
        exact e rfl
      by_cases q : j < k
      · rw [if_pos q, if_pos (by omega)]
      · rw [if_neg q, if_neg (by omega)]
set_option maxHeartbeats 3200000 in
theorem named_yes (gn : ByteArray) (An Ai Ao : Option Addr) (cn ci co : Nat) (l : List Op1) (x : Int) (b : Nat) (w : World) (h : FlatG w An Ai Ao l x) (hm : MapIs w b (mkF l l.length) (l.length + 1)) :
    Calls Tryz.prog 63 #[.agg #[.string gn, .slice An l.length cn, .slice Ai 1 ci, .slice Ao l.length co, .slice none 0 0], .map (some b)] w fun e w' => e = .returned (.bool true) ∧ Below w.heap.size w w' := by
  have H := Lib.hid h
  have HM := Lib.hid hm
  have H5 := h.ok.most
  have H0 := h.ok.pos
  have hmm := @run_makeMap Tryz.prog
  clear h hm
  go_enter Tryz.func63, Tryz.ntmps63
  go_wp2_with fail
  refine newX (F := fun W => Code.wp _ _ _ _ W) ?_
  intro w1 h1
  have HX := Lib.hid h1
  clear h1
  have hnl : (l.length : Int) ≤ 5 := by omega
  go_loopw [19] (fun i wr => ∃ k : Nat, k ≤ l.length ∧ i = .int .i64 k ∧ Fx w wr [some (.cells #[.string gn, .slice An l.length cn, .slice Ai 1 ci, .slice Ao l.length co, .slice none 0 0] 33)]) (fun i _ => l.length - (intOf i).toNat)
  case atStart => exact ⟨0, by omega, rfl, HX.out⟩
  case round =>
    obtain ⟨k, hk, rfl, hs⟩ := hrel
    by_cases hlt : k < l.length
    · have hF := H.out.below hs.below
      obtain ⟨bn, offn, rfl, hb, hc⟩ := hF.nodes
      obtain ⟨o, ho⟩ : ∃ o, l[k]? = some o := ⟨_, List.getElem?_eq_getElem hlt⟩
      have hmem := List.mem_of_getElem? ho
      obtain ⟨nm, A', c, q0, q1, q2, q3, q4, q5⟩ := hc k o ho
      have hs1 := hs.new (.cells #[.string o.op, .string nm, .slice A' o.m c, .string o.out, .slice none 0 0] 37)
      have hl := (((HM.out.below hs.below).below (below_new wr (.cells #[.string o.op, .string nm, .slice A' o.m c, .string o.out, .slice none 0 0] 37)))).look2 (s := ⟨#[120]⟩) Tryz.und142 (zero3 _) (by decide)
      rw [mkF_x hF.ok l.length (Nat.le_refl _)] at hl
      simp only [Option.isSome_some, Option.getD_some] at hl
      obtain ⟨b2, off2, rfl, hb2, hc2⟩ := q5
      have n2 : b2 < wr.heap.size + 1 := by omega
      have hm2 := (hF.ok.ops o hmem).cases
      have HS := Lib.hid hs1
      clear hs hs1 hc hF ho hmem
      rcases hm2 with hm2 | hm2
      · have c0 : wr.cell? ⟨b2, off2, none⟩ = some (.string ⟨#[120]⟩) := hc2 0 (by omega)
        rw [hm2] at q2 hl HS
        clear hc2 hm2
        go_wp2_with fail
        refine wp_loop_rounds 2 ?_
        rw [rounds_succ]
        go_wp2_with fail
        rw [rounds_succ]
        go_wp2_with fail
        go_roundw
        case rel => exact ⟨k + 1, by omega, by go_num, HS.out⟩
        case measure => simp [intOf]; omega
      · have c0 : wr.cell? ⟨b2, off2, none⟩ = some (.string ⟨#[120]⟩) := hc2 0 (by omega)
        have c1 := hc2 1 (by omega)
        rw [hm2] at q2 hl HS
        clear hc2 hm2
        go_wp2_with fail
        refine wp_loop_rounds 3 ?_
        rw [rounds_succ]
        go_wp2_with fail
        rw [rounds_succ]
        go_wp2_with fail
        rw [rounds_succ]
        go_wp2_with fail
        go_roundw
        case rel => exact ⟨k + 1, by omega, by go_num, HS.out⟩
        case measure => simp [intOf]; omega
    · obtain rfl : k = l.length := by omega
      have hs1 := hs.new (.map #[] 0)
      obtain ⟨r0, r1, r2, r3, r4, -⟩ := cells5 (hs1.b0 rfl)
      have HM1 := Lib.hid (mapIs_made wr)
      have zr := hs.size
      simp at zr
      have HS := Lib.hid hs1
      clear hs hs1 hlt
      go_wp2_with fail
      clear r0 r1 r2 r3 r4
      generalize wr.heap.size = B at HM1 zr ⊢
      go_loopw [44] (fun i w3 => ∃ k : Nat, k ≤ l.length ∧ i = .int .i64 k ∧ Fx w w3 [some (.cells #[.string gn, .slice An l.length cn, .slice Ai 1 ci, .slice Ao l.length co, .slice none 0 0] 33)] ∧ MapIs w3 B (onF l k) k) (fun i _ => l.length - (intOf i).toNat)
      case atStart => exact ⟨0, by omega, rfl, HS.out, HM1.out⟩
      case round =>
        obtain ⟨k, hk, rfl, hs, hm⟩ := hrel
        by_cases hlt : k < l.length
        · have hF := H.out.below hs.below
          obtain ⟨bn, offn, rfl, hb, hc⟩ := hF.outs
          obtain ⟨o, ho⟩ : ∃ o, l[k]? = some o := ⟨_, List.getElem?_eq_getElem hlt⟩
          have hmem := List.mem_of_getElem? ho
          obtain ⟨Ad, c, q0, q1, q2, q3⟩ := hc k o.out (by simp [ho])
          have hs1 := hs.new (.cells #[.string o.out, .int .i64 6, .slice Ad 1 c] 28)
          have hbn := below_new wr (.cells #[.string o.out, .int .i64 6, .slice Ad 1 c] 28)
          have hl := ((HM.out.below hs.below).below hbn).look2 (s := o.out) Tryz.und142 (zero3 _) (hF.ok.short o hmem)
          rw [mkF_out hF.ok ho l.length (Nat.le_refl _), if_pos hlt] at hl
          simp only [Option.isSome_some, Option.getD_some] at hl
          have hm1 := hm.below hbn
          have hl2 := hm1.look (s := o.out) Tryz.und142 (zero3 _) (hF.ok.short o hmem)
          obtain ⟨w5, hp, hm5, hg5⟩ := hm1.put Tryz.und142 (s := o.out) (hF.ok.short o hmem) (by omega) (.int .i64 1)
          rw [onF_out hF.ok ho k hk, if_neg (Nat.lt_irrefl k)] at hl2 hm5
          simp only [Option.isSome_none, Option.getD_none, Bool.false_eq_true, if_false] at hl2 hm5
          have e1 : upd (onF l k) o.out (.int .i64 1) = onF l (k + 1) := by simp [onF, ho]
          rw [e1] at hm5
          have h5 := hs1.later ((grown_only hg5).below (B := w.heap.size + 1) (by omega) (by have := hs1.size; simpa using this))
          have HM5 := Lib.hid hm5
          have H5' := Lib.hid h5
          have n1 : bn < wr.heap.size + 1 := by omega
          clear hs hs1 hc q3 hF ho hmem hm e1 hm1 hg5 hm5 h5 hbn
          go_wp2_with fail
          go_roundw
          case rel => exact ⟨k + 1, by omega, by go_num, H5'.out, HM5.out⟩
          case measure => simp [intOf]; omega
        · obtain rfl : k = l.length := by omega
          obtain ⟨r0, r1, r2, r3, r4, -⟩ := cells5 (hs.b0 rfl)
          have hl := fun ty => hm.len Tryz.und142 ty
          have HS' := Lib.hid hs
          have l1 : decide (0 < l.length) = true := by simpa using H0
          clear hs hm HS HM1
          go_wp2_with fail
          go_ret
          exact ⟨rfl, HS'.out.below⟩
end Go.Proofs.YtbilddeepnnogaaGreatDoor
end
/- Graphs: the order of work. -/
section
set_option linter.unusedVariables false
set_option maxRecDepth 100000
namespace Go.Proofs.YtbilddeepnnogaaGreatDoor
open Go.RowKit Go.Shelf

/-- What the search for the next node keeps. -/
structure OrSt (w wr : World) (o : Obj) (l : List Op1) (b D k j : Nat) (v : Value) : Prop where
  fx : Fx w wr [some o]
  hm : MapIs wr b (mkF l l.length) (l.length + 1)
  row : wr.rowIs D 4 l.length (fun i => .bool (decide (i < k)))
  own : OwnL repInt 3 wr (D + 1) (fun _ => False) v (upL j)
  size : D + 1 ≤ wr.heap.size
  apart : b < D
theorem order_start {w w4 : World} {o : Obj} (l : List Op1) {b : Nat} (h : Fx w w4 [some o]) (hm : MapIs w4 b (mkF l l.length) (l.length + 1)) :
    OrSt w (w4.alloc (.cells (madeCells #[.bool false] l.length) 4)) o l b w4.heap.size 0 0 (.slice none 0 0) :=
  ⟨h.new _, hm.below (below_new _ _), (World.rowIs_made w4 (.bool false) l.length 4).congr (fun i hi => by simp), ownL_nil, by simp, hm.lt⟩
theorem OrSt.all {w wr w' : World} {o : Obj} {l : List Op1} {b D k j : Nat} {v : Value} (h : OrSt w wr o l b D k j v) (hb : Below wr.heap.size wr w') : OrSt w w' o l b D k j v :=
  ⟨h.fx.all hb, h.hm.below hb, h.row.of_block (hb.block D (by have := h.size; omega)), h.own.keep (fun j hj => hb.block j (h.own.lt j hj).2) (fun _ h => h.elim) (fun _ h => h), Nat.le_trans h.size hb.size, h.apart⟩
/-- One more is done. -/
theorem OrSt.done {w wr : World} {o : Obj} {l : List Op1} {b D k j : Nat} {v : Value} (h : OrSt w wr o l b D k j v) (hD : w.heap.size + 1 ≤ D) : OrSt w (wr.setCell ⟨D, k, none⟩ (.bool true)) o l b D (k + 1) j v :=
  ⟨h.fx.later ((Below.refl _ _).setCell (by show _ ≤ D; simpa using hD) _), h.hm.keep (Below.heap_setCell _ _ _ _ (by have := h.apart; show _ ≠ D; omega)),
    (h.row.set k (.bool true)).congr (fun i _ => by by_cases e : i = k <;> simp [e]; omega), h.own.keep (fun j hj => Below.heap_setCell _ _ _ _ (by have := (h.own.lt j hj).1; show _ ≠ D; omega)) (fun _ h => h.elim) (fun _ h => h), by simpa [World.setCell] using h.size, h.apart⟩
/-- One more has come. -/
theorem OrSt.come {w wr w' : World} {o : Obj} {l : List Op1} {b D k j : Nat} {v v' : Value} (h : OrSt w wr o l b D k j v) (hD : w.heap.size + 1 ≤ D) (ho : OwnL repInt 3 w' (D + 1) (fun _ => False) v' (upL j ++ [(j : Int)])) (hb : Below (D + 1) wr w') : OrSt w w' o l b D k (j + 1) v' :=
  ⟨h.fx.later (hb.mono (by simp; omega)), h.hm.keep (hb.block _ (by have := h.apart; omega)), h.row.of_block (hb.block D (by omega)), by rw [upL_succ]; exact ho, Nat.le_trans h.size hb.size, h.apart⟩
set_option maxHeartbeats 3200000 in
theorem order_new (gn : ByteArray) (An Ai Ao : Option Addr) (cn ci co : Nat) (l : List Op1) (x : Int) (w : World) (h : FlatG w An Ai Ao l x) :
    Calls Tryz.prog 29 #[.agg #[.string gn, .slice An l.length cn, .slice Ai 1 ci, .slice Ao l.length co, .slice none 0 0]] w fun e w' => ∃ A c, e = .returned (.tuple #[.slice A l.length c, .int .i64 0]) ∧ UpTo w' A l.length ∧ Below w.heap.size w w' ∧ ∀ a, A = some a → w.heap.size ≤ a.block := by
  have H := Lib.hid h
  have H5 := h.ok.most
  have H0 := h.ok.pos
  have hmk := make_bools l.length (by omega)
  obtain ⟨i3, hi3⟩ : ∃ i3, Tryz.prog.info? 3 = some i3 ∧ i3.zero = some (.int .i64 0) ∧ i3.size = 1 ∧ i3.bytes = 8 := by
    obtain ⟨i, h1, h2, h3, h4⟩ := info_parts Tryz.info3
    exact ⟨i, h1, h2, h3, h4⟩
  have HI3 := Lib.hid hi3
  clear hi3
  clear h
  go_enter Tryz.func29, Tryz.ntmps29
  have hnl : (l.length : Int) ≤ 5 := by omega
  go_wp2_with fail
  refine newX (F := fun W => Code.wp _ _ _ _ W) ?_
  intro w1 h1
  obtain ⟨r0, r1, r2, r3, r4, -⟩ := cells5 (h1.b0 rfl)
  have g1 : decide ((1000 : Int) < (l.length : Int)) = false := by simp; omega
  have g2 : decide ((3000 : Int) < 1 + (l.length : Int)) = false := by simp; omega
  have g3 : decide ((3000 : Int) < (l.length : Int)) = false := by simp; omega
  have g4 : IntKind.i64.wrap (1 + (l.length : Int)) = 1 + (l.length : Int) := IntWalk.i64_in _ (by omega)
  go_step3
  go_wp2_with fail
  refine (parts_any gn An Ai Ao cn ci co l x w1 (H.out.below h1.below)).mono ?_
  rintro e w2 ⟨rfl, hb⟩
  have h2 := h1.all hb
  clear hb h1 r0 r1 r2 r3 r4 g1 g2 g3 g4
  obtain ⟨r0, r1, r2, r3, r4, -⟩ := cells5 (h2.b0 rfl)
  go_wp2_with fail
  refine (makers_any gn An Ai Ao cn ci co l x w2 (H.out.below h2.below)).mono ?_
  rintro e w3 ⟨b, rfl, hm, hb⟩
  have h3 := h2.all hb
  clear hb h2 r0 r1 r2 r3 r4
  obtain ⟨r0, r1, r2, r3, r4, -⟩ := cells5 (h3.b0 rfl)
  have HM := Lib.hid hm
  clear hm
  go_wp2_with fail
  refine (named_yes gn An Ai Ao cn ci co l x b w3 (H.out.below h3.below) HM.out).mono ?_
  rintro e w4 ⟨rfl, hb⟩
  have h4 := h3.all hb
  have HM4 := Lib.hid (HM.out.below hb)
  clear hb h3 HM r0 r1 r2 r3 r4
  obtain ⟨r0, r1, r2, r3, r4, -⟩ := cells5 (h4.b0 rfl)
  go_wp2_with fail
  go_step3
  go_wp2_with fail
  have HS := Lib.hid (order_start l h4 HM4.out)
  have hD0 : w.heap.size + 1 ≤ w4.heap.size := h4.size
  have HD := Lib.hid hD0
  clear h4 HM4 r0 r1 r2 r3 r4 hD0
  generalize w4.heap.size = D at HS HD ⊢
  go_loopg [8] l.length (fun g v wr => ∃ k : Nat, k + g = l.length ∧ OrSt w wr (.cells #[.string gn, .slice An l.length cn, .slice Ai 1 ci, .slice Ao l.length co, .slice none 0 0] 33) l b D k k v)
  case atStart => exact ⟨0, by omega, HS.out⟩
  case round =>
    obtain ⟨k, hkg, hs⟩ := hrel
    cases gk with
    | zero =>
      obtain rfl : k = l.length := by omega
      obtain ⟨r0, r1, r2, r3, r4, -⟩ := cells5 (hs.fx.b0 rfl)
      obtain ⟨A, c, rfl, hu⟩ := hs.own.upTo H0
      have hfr : ∀ a, A = some a → w.heap.size ≤ a.block := by
        rintro a rfl
        have := (hs.own.lt a.block rfl).1
        have := HD.out
        omega
      have HF := Lib.hid hs.fx.below
      have HU := Lib.hid hu
      clear hs hu HS
      go_wp2_with fail
      try rw [Exit.noGoto_ret]
      go_ret2
      exact ⟨_, _, rfl, HU.out, HF.out, hfr⟩
    | succ g =>
      have hlt : k < l.length := by omega
      obtain ⟨A, c, hv⟩ := hs.own.form
      rw [upL_length] at hv
      subst hv
      obtain ⟨r0, r1, r2, r3, r4, -⟩ := cells5 (hs.fx.b0 rfl)
      have HS2 := Lib.hid hs
      clear hs HS
      go_wp2_with fail
      go_step3
      go_wp2_with fail
      go_step3
      go_wp2_with fail
      clear r0 r1 r2 r3 r4
      go_loopg [8, 69] k (fun g2 s8 s69 wy => ∃ i : Nat, i + g2 = k ∧ s8 = .slice A k c ∧ s69 = .int .i64 i ∧ OrSt w wy (.cells #[.string gn, .slice An l.length cn, .slice Ai 1 ci, .slice Ao l.length co, .slice none 0 0] 33) l b D k k (.slice A k c))
      case atStart => exact ⟨0, by omega, rfl, rfl, HS2.out⟩
      case round =>
        obtain ⟨i, hig, rfl, rfl, hs⟩ := hrel
        have hF := H.out.below hs.fx.below
        obtain ⟨bn, offn, rfl, hb, hc⟩ := hF.nodes
        obtain ⟨o, ho⟩ : ∃ o, l[i]? = some o := ⟨_, List.getElem?_eq_getElem (by omega)⟩
        have hmem := List.mem_of_getElem? ho
        obtain ⟨nm, A', c', q0, q1, q2, q3, q4, q5⟩ := hc i o ho
        have hs1 := hs.all (below_new wr (.cells #[.string o.op, .string nm, .slice A' o.m c', .string o.out, .slice none 0 0] 37))
        have hd := hs1.row.cell (i := i) (by omega)
        have n0 : D < wr.heap.size := by have := hs.size; omega
        cases gk with
        | zero =>
          obtain rfl : i = k := by omega
          rw [decide_eq_false (Nat.lt_irrefl i)] at hd
          have hl := hs1.hm.look (s := ⟨#[120]⟩) Tryz.und142 (zero3 _) (by decide)
          rw [mkF_x hF.ok l.length (Nat.le_refl _)] at hl
          simp only [Option.getD_some] at hl
          have hfz := hs.row.frozen i
          have hdn := (hs.done HD.out).all (below_new (wr.setCell ⟨D, i, none⟩ (.bool true)) (.cells #[.string o.op, .string nm, .slice A' o.m c', .string o.out, .slice none 0 0] 37))
          have HN := Lib.hid hdn
          have hz : D + 1 ≤ ((wr.setCell ⟨D, i, none⟩ (.bool true)).alloc (.cells #[.string o.op, .string nm, .slice A' o.m c', .string o.out, .slice none 0 0] 37)).heap.size := hdn.size
          have HZ := Lib.hid hz
          obtain ⟨b2, off2, rfl, hb2, hc2⟩ := q5
          have n2 : b2 < wr.heap.size + 1 := by omega
          have hm2 := (hF.ok.ops o hmem).cases
          have c0 : wr.cell? ⟨b2, off2, none⟩ = some (.string ⟨#[120]⟩) := hc2 0 (by omega)
          have ng : ((-1 : Int) ≥ 0) = False := by simp
          clear hs hs1 hc hF ho hmem hdn HS2 hz
          rcases hm2 with hm2 | hm2
          · rw [hm2] at q2 hl HN hd HZ
            clear hc2 hm2
            go_wp2_with fail
            refine wp_loop_rounds 2 ?_
            rw [rounds_succ]
            go_wp2_with fail
            rw [rounds_succ]
            go_wp2_with (at_builtin; refine wpList_append_f _ repInt flatInt (i : Int) [.int .i64 (i : Int)] rfl (.tmp 101) (.tmp 103) 23 rfl 3 i3 _ 8 Tryz.underlying23 HI3.out.1 HI3.out.2.1 HI3.out.2.2.1 HI3.out.2.2.2 rfl (by decide) (by decide) (D + 1) _ (upL i) rfl HN.out.own rfl (wr.heap.size + 1) (by simp [World.setCell]) rfl (by rw [upL_length]; omega) HZ.out ?_; intro v' w7 ho7 hb7)
            have hs7 := HN.out.come HD.out ho7 hb7
            rw [Exit.noGoto_exit]
            go_wp2_with fail
            go_roundg g
            case rel => exact ⟨i + 1, by omega, hs7⟩
            case measure => omega
          · rw [hm2] at q2 hl HN hd HZ
            have c1 : wr.cell? ⟨b2, off2 + 1, none⟩ = some (.string ⟨#[120]⟩) := hc2 1 (by omega)
            clear hc2 hm2
            go_wp2_with fail
            refine wp_loop_rounds 3 ?_
            rw [rounds_succ]
            go_wp2_with fail
            rw [rounds_succ]
            go_wp2_with fail
            rw [rounds_succ]
            go_wp2_with (at_builtin; refine wpList_append_f _ repInt flatInt (i : Int) [.int .i64 (i : Int)] rfl (.tmp 101) (.tmp 103) 23 rfl 3 i3 _ 8 Tryz.underlying23 HI3.out.1 HI3.out.2.1 HI3.out.2.2.1 HI3.out.2.2.2 rfl (by decide) (by decide) (D + 1) _ (upL i) rfl HN.out.own rfl (wr.heap.size + 1) (by simp [World.setCell]) rfl (by rw [upL_length]; omega) HZ.out ?_; intro v' w7 ho7 hb7)
            have hs7 := HN.out.come HD.out ho7 hb7
            rw [Exit.noGoto_exit]
            go_wp2_with fail
            go_roundg g
            case rel => exact ⟨i + 1, by omega, hs7⟩
            case measure => omega
        | succ g2 =>
          have hik : i < k := by omega
          rw [decide_eq_true hik] at hd
          have HS3 := Lib.hid hs1
          clear hs hs1 hc q5 hF ho hmem HS2
          go_wp2_with fail
          go_roundg g2
          case rel => exact ⟨i + 1, by omega, rfl, by go_num, HS3.out⟩
          case measure => omega
theorem order_any (gn : ByteArray) (An Ai Ao : Option Addr) (cn ci co : Nat) (l : List Op1) (x : Int) (w : World) (h : FlatG w An Ai Ao l x) :
    Calls Tryz.prog 29 #[.agg #[.string gn, .slice An l.length cn, .slice Ai 1 ci, .slice Ao l.length co, .slice none 0 0]] w fun e w' => ∃ A c, e = .returned (.tuple #[.slice A l.length c, .int .i64 0]) ∧ UpTo w' A l.length ∧ Below w.heap.size w w' := by
  refine (order_new gn An Ai Ao cn ci co l x w h).mono ?_
  rintro e w' ⟨A, c, h1, h2, h3, -⟩
  exact ⟨A, c, h1, h2, h3⟩
end Go.Proofs.YtbilddeepnnogaaGreatDoor
end
/- Types and shapes of all values. -/
section
set_option linter.unusedVariables false
set_option maxRecDepth 100000
namespace Go.Proofs.YtbilddeepnnogaaGreatDoor
open Go.RowKit Go.Shelf

theorem one_slc {w : World} {b off : Nat} {x : Int} (h1 : b < w.heap.size) (h2 : w.cell? ⟨b, off, none⟩ = some (.int .i64 x)) (c : Nat) : IsSlc repInt w (fun k => k = b) (.slice (some ⟨b, off, none⟩) 1 c) [x] := by
  refine ⟨_, _, _, rfl, ⟨rfl, by unfold maxLen; omega, fun _ => ⟨b, off, rfl, rfl, fun j y hj => ?_⟩⟩, fun e => by simp at e⟩
  match j, hj with
  | 0, hj =>
    simp at hj
    subst hj
    refine ⟨_, rfl, fun i hi => ?_⟩
    obtain rfl : i = 0 := by have : i < 1 := hi; omega
    simpa using h2
  | j + 1, hj => simp at hj
/-- What the making of all values keeps: the list, the map of their places. -/
structure AllSt (w wr : World) (B : Nat) (f : ByteArray → Option Value) (n : Nat) (L : List Vl) : Prop where
  below : Below B w wr
  out : ∃ v, wr.heap[B]? = some (.cells #[v] 29 (0, 0)) ∧ OZ repVl 28 wr (B + 3) v L
  map : MapIs wr (B + 1) f n
  mc : wr.heap[B + 1 + 1]? = some (.cells #[.map (some (B + 1))] 142 (0, 0))
  size : B + 3 ≤ wr.heap.size
theorem AllSt.all {w wr w' : World} {B : Nat} {f : ByteArray → Option Value} {n : Nat} {L : List Vl} (h : AllSt w wr B f n L) (hb : Below wr.heap.size wr w') : AllSt w w' B f n L := by
  obtain ⟨h1, ⟨v, h2, h3⟩, h4, h5, h6⟩ := h
  exact ⟨h1.trans (hb.mono (by omega)), ⟨v, (hb.block B (by omega)).trans h2, h3.below hb⟩, h4.below hb, (hb.block _ (by omega)).trans h5, Nat.le_trans h6 hb.size⟩
theorem Tryz.info28 : (Tryz.prog.info? 28).map (fun i => (i.zero, i.size, i.bytes)) = some (some (.agg #[.string ⟨#[]⟩, .int .i64 0, .slice none 0 0]), 3, 48) := by kernel_rfl
set_option maxHeartbeats 1600000 in
theorem iadd_any (s : ByteArray) (D : Option Addr) (c n B : Nat) (x : Int) (f : ByteArray → Option Value) (L : List Vl) (w W : World) (h : AllSt w W B f n L) (h1 : One W D x) (hs : s.size ≤ 1000) (hn : n ≤ 1000) (hf : f s = none) (hL : L.length ≤ 1000) :
    Calls Tryz.prog 64 #[.agg #[.string s, .int .i64 6, .slice D 1 c], .pointer (some ⟨B, 0, none⟩), .pointer (some ⟨B + 1 + 1, 0, none⟩)] W fun e W' => e = .returned (.tuple #[]) ∧ AllSt w W' B (upd f s (.int .i64 L.length)) (n + 1) (L ++ [⟨s, 6, [x]⟩]) := by
  obtain ⟨i0, hi⟩ : ∃ i, Tryz.prog.info? 28 = some i ∧ i.zero = some (.agg #[.string ⟨#[]⟩, .int .i64 0, .slice none 0 0]) ∧ i.size = 3 ∧ i.bytes = 48 := by
    obtain ⟨i, h1, h2, h3, h4⟩ := info_parts Tryz.info28
    exact ⟨i, h1, h2, h3, h4⟩
  have HI := Lib.hid hi
  clear hi
  obtain ⟨hbl, ⟨v, ho, hz⟩, hm, hc, hsz⟩ := h
  obtain ⟨A, cv, rfl⟩ := hz.form
  have hb1 := below_new W (.cells #[.string s, .int .i64 6, .slice D 1 c] 28)
  obtain ⟨w2, hp, hm2, hg2⟩ := (hm.below hb1).put Tryz.und142 hs hn (.int .i64 L.length)
  rw [hf] at hm2
  simp only [Option.isSome_none, Bool.false_eq_true, if_false] at hm2
  have ho2 := grown_only hg2
  have s0 : W.cell? ⟨B + 1 + 1, 0, none⟩ = some (.map (some (B + 1))) := cell_of_row _ _ 0 _ 142 (0, 0) hc
  have s1 : W.cell? ⟨B, 0, none⟩ = some (.slice A L.length cv) := cell_of_row _ _ 0 _ 29 (0, 0) ho
  have n1 : B + 1 + 1 < W.heap.size := by omega
  have n2 : B < W.heap.size := by omega
  have z2 : W.heap.size + 1 ≤ w2.heap.size := by have := ho2.size; simpa using this
  have gB := (ho2.block W.heap.size (by simp) (by omega)).trans (heap_alloc_new W _)
  obtain ⟨t0, t1, t2, -⟩ := cells3 gB
  have g0 := (ho2.block B (by simp; omega) (by omega)).trans ((hb1.block B (by omega)).trans ho)
  have gc := (ho2.block (B + 1 + 1) (by simp; omega) (by omega)).trans ((hb1.block (B + 1 + 1) (by omega)).trans hc)
  obtain ⟨t3, -⟩ := cells1 g0
  have hD2 : One w2 D x := by
    obtain ⟨bd, od, rfl, q1, q2⟩ := h1
    have q3 := hm.ne_cell q2
    exact ⟨bd, od, rfl, by omega, (World.cell?_of_block (a := ⟨bd, od, none⟩) ((ho2.block bd (by simp; omega) q3).trans (hb1.block bd q1))).trans q2⟩
  have hC := clone1_any w2 D c x hD2
  have HM2 := Lib.hid hm2
  have HO2 := Lib.hid (show Below (B + 1) W w2 from ((hb1.mono (by omega)).trans (ho2.below (Nat.le_refl _) (by simp; omega))))
  have hk2 : ∀ k, k < W.heap.size → k ≠ B + 1 → w2.heap[k]? = W.heap[k]? := fun k h1 h2 => (ho2.block k (by simp; omega) h2).trans (hb1.block k h1)
  clear ho2 hg2 hm2 hf hm hb1
  have hrow := hz.row_lt
  have HZ3 : ∀ {W3 : World} (u : Value), Below w2.heap.size w2 W3 → OZ repVl 28 (W3.setCell ⟨W.heap.size, 2, none⟩ u) (B + 3) (.slice A L.length cv) L := fun {W3} u hb => hz.keep (fun k h1 h2 => (Below.heap_setCell _ _ _ _ (by show k ≠ W.heap.size; omega)).trans ((hb.block k (by omega)).trans (hk2 k h2 (by omega)))) (by have := hb.size; simp [World.setCell]; omega)
  go_enter Tryz.func64, Tryz.ntmps64
  go_wp2_with (first
    | (go_at_call 65; refine hC.mono ?_; rintro e w3 ⟨A', c', rfl, hn3, hb3⟩; have gB3 := ((hb3.block W.heap.size (by omega)).trans gB); obtain ⟨u0, u1, u2, f0, f1, f2⟩ := cells3 gB3; have g03 := ((hb3.block B (by omega)).trans g0); obtain ⟨u3, f3⟩ := cells1 g03; have n3 : B < w3.heap.size := (by have := hb3.size; omega); have n4 : W.heap.size < w3.heap.size := (by have := hb3.size; omega); have n5 : W.heap.size ≠ B := (by omega); obtain ⟨g, rfl, j1, j2, j3, j4⟩ := hn3)
    | (at_builtin; refine wpList_append_z (w3.setCell ⟨W.heap.size, 2, none⟩ (.slice (some ⟨g, 0, none⟩) 1 c')) repVl ⟨s, 6, [x]⟩ [.string s, .int .i64 6, .slice (some ⟨g, 0, none⟩) 1 c'] rfl (.tmp 13) (.tmp 15) 29 rfl 28 i0 _ 48 Tryz.underlying29 HI.out.1 HI.out.2.1 HI.out.2.2.1 HI.out.2.2.2 rfl (by decide) (by decide) (B + 3) _ L rfl (HZ3 _ hb3) (fun k => k = g) ⟨_, rfl, one_slc (by simp [World.setCell]; exact j2) ((World.cell?_of_block (a := ⟨g, 0, none⟩) (Below.heap_setCell _ _ _ _ (by show g ≠ W.heap.size; omega))).trans j3) c'⟩ (by rintro k rfl; refine ⟨by omega, by simp [World.setCell]; exact j2, fun e => ?_⟩; have := (hrow _ e).2; omega) w3.heap.size (by simp [World.setCell]) rfl (by omega) (by simp [World.setCell]; omega) ?_; intro v' w5 hz5 hg5; obtain ⟨A5, c5, e5⟩ := hz5.form; rw [show (L ++ [(⟨s, 6, [x]⟩ : Vl)]).length = L.length + 1 from by simp] at e5; subst e5; have g05 := ((hg5.block B (by simp [World.setCell]; omega) (fun e => by have := (hrow _ e.symm).1; omega)).trans ((Below.heap_setCell w3 _ _ _ (by show B ≠ W.heap.size; omega)).trans g03)); obtain ⟨u5, f5⟩ := cells1 g05))
  go_end0
  have K5 : ∀ k, k < B + 3 → k ≠ B → (w5.setCell ⟨B, 0, none⟩ (.slice A5 (L.length + 1) c5)).heap[k]? = w2.heap[k]? := fun k h1 h2 =>
    (Below.heap_setCell _ _ _ _ (by show k ≠ B; exact h2)).trans ((hg5.block k (by simp [World.setCell]; omega) (fun e => by have := (hrow _ e.symm).1; omega)).trans ((Below.heap_setCell _ _ _ _ (by show k ≠ W.heap.size; omega)).trans (hb3.block k (by omega))))
  have z5 := hg5.size
  have z3 := hb3.size
  simp only [World.setCell, Array.size_modify] at z5
  refine ⟨rfl, ?_, ⟨_, heap_setCell_same _ _ _ _ _ _ g05, ?_⟩, ?_, ?_, ?_⟩
  · refine hbl.trans (Below.mk ?_ ?_ ?_ ?_ ?_)
    · exact hg5.os.trans (hb3.os.trans HO2.out.os)
    · exact hg5.tape.trans (hb3.tape.trans HO2.out.tape)
    · exact hg5.output.trans (hb3.output.trans HO2.out.output)
    · simp [World.setCell]; omega
    · intro k hk
      exact (K5 k (by omega) (by omega)).trans (hk2 k (by omega) (by omega))
  · refine hz5.keep (fun k h1 h2 => Below.heap_setCell _ _ _ _ (by show k ≠ B; omega)) (by simp [World.setCell])
  · exact HM2.out.keep (K5 (B + 1) (by omega) (by omega))
  · exact (K5 (B + 1 + 1) (by omega) (by omega)).trans gc
  · simp [World.setCell]; omega
/-- Where the values of x and of the first k nodes stand. -/
def alF (l : List Op1) : Nat → ByteArray → Option Value
  | 0 => upd (fun _ => none) ⟨#[120]⟩ (.int .i64 0)
  | k + 1 => upd (alF l k) ((l[k]?.map (·.out)).getD ⟨#[]⟩) (.int .i64 (k + 1 : Nat))
theorem alF_x {l : List Op1} (h : FlatL l) : ∀ k, k ≤ l.length → alF l k ⟨#[120]⟩ = some (.int .i64 0) := by
  intro k
  induction k with
  | zero => intro _; simp [alF, upd]
  | succ k ih =>
    intro hk
    obtain ⟨o, ho⟩ : ∃ o, l[k]? = some o := ⟨_, List.getElem?_eq_getElem hk⟩
    have := out_ne_x h ho
    simp only [alF, ho, Option.map_some, Option.getD_some, upd]
    rw [if_neg (fun e => this e.symm)]
    exact ih (by omega)
theorem alF_out {l : List Op1} (h : FlatL l) {j : Nat} {o : Op1} (hj : l[j]? = some o) : ∀ k, k ≤ l.length → alF l k o.out = if j < k then some (.int .i64 (j + 1 : Nat)) else none := by
  intro k
  induction k with
  | zero => intro _; simp [alF, upd, out_ne_x h hj]
  | succ k ih =>
    intro hk
    obtain ⟨p, hp⟩ : ∃ p, l[k]? = some p := ⟨_, List.getElem?_eq_getElem hk⟩
    simp only [alF, hp, Option.map_some, Option.getD_some, upd]
    by_cases e : o.out = p.out
    · have := h.apart j k o p hj hp e
      subst this
      rw [if_pos e, if_pos (by omega)]
    · rw [if_neg e, ih (by omega)]
      have : j ≠ k := by
        rintro rfl
        rw [hj] at hp
        cases hp
        exact e rfl
      by_cases q : j < k
      · rw [if_pos q, if_pos (by omega)]
      · rw [if_neg q, if_neg (by omega)]
/-- The values of x and of the first k nodes. -/
def vlsL (l : List Op1) (x : Int) (k : Nat) : List Vl := (⟨#[120]⟩ :: (l.take k).map (·.out)).map (fun s => ⟨s, 6, [x]⟩)
theorem vlsL_length {l : List Op1} {x : Int} {k : Nat} (h : k ≤ l.length) : (vlsL l x k).length = k + 1 := by simp [vlsL]; omega
theorem vlsL_succ {l : List Op1} {x : Int} {k : Nat} {o : Op1} (h : l[k]? = some o) : vlsL l x (k + 1) = vlsL l x k ++ [⟨o.out, 6, [x]⟩] := by
  simp [vlsL, List.take_add_one, h]
theorem vlAt_of {w : World} {Z : Nat → Prop} {v : Value} {ns : List ByteArray} {x : Int} (h : IsSlc repVl w Z v (ns.map (fun s => ⟨s, 6, [x]⟩))) (hl : 0 < ns.length) (hZ : ∀ k, Z k → k < w.heap.size) : ∃ A c, v = .slice A ns.length c ∧ VlAt w A ns x := by
  obtain ⟨A, n, c, rfl, hs, _⟩ := h
  have hn := hs.len
  simp at hn
  subst hn
  refine ⟨A, c, rfl, ?_⟩
  obtain ⟨b, off, rfl, hb, hc⟩ := hs.at_ hl
  refine ⟨b, off, rfl, hZ b hb, fun j s hj => ?_⟩
  obtain ⟨cs, ⟨d, rfl, hd⟩, hi⟩ := hc j _ (by rw [List.getElem?_map, hj]; rfl)
  obtain ⟨Ad, m, cd, rfl, hsd, h0⟩ := hd
  obtain ⟨hO, rfl⟩ := one_of ⟨Ad, m, cd, rfl, hsd, h0⟩ hZ
  exact ⟨Ad, cd, by have := hi 0 (by decide); simpa [repVl] using this, by have := hi 1 (by decide); simpa [repVl] using this, by have := hi 2 (by decide); simpa [repVl] using this, hO⟩
theorem OZ.cap {α : Type} {ρ : Rep α} {e : TypeId} {w : World} {lo n c : Nat} {A : Option Addr} {l : List α} (h : OZ ρ e w lo (.slice A n c) l) : n ≤ c := by
  obtain ⟨Z, h1, _⟩ := h
  obtain ⟨xs, hx, _⟩ := h1.own
  rcases hx.2 with ⟨h1, _⟩ | ⟨g, cap, cur, h1, _, _, h2, _⟩
  · simp only [Value.slice.injEq] at h1
    omega
  · simp only [Value.slice.injEq] at h1
    omega
theorem AllSt.vls {w wr : World} {B k : Nat} {f : ByteArray → Option Value} {n : Nat} {l : List Op1} {x : Int} (h : AllSt w wr B f n (vlsL l x k)) (hk : k ≤ l.length) : ∃ A c, wr.heap[B]? = some (.cells #[.slice A (k + 1) c] 29 (0, 0)) ∧ VlAt wr A (⟨#[120]⟩ :: (l.take k).map (·.out)) x ∧ k + 1 ≤ c := by
  obtain ⟨v, h1, h2⟩ := h.out
  obtain ⟨A, c, rfl, h3⟩ := vlAt_of (h2.isSlc (by decide)) (by simp) (fun k hk => hk.2)
  have e : (⟨#[120]⟩ :: (l.take k).map (·.out) : List ByteArray).length = k + 1 := by simp; omega
  rw [e] at h1 h2
  exact ⟨A, c, h1, h3, h2.cap⟩
set_option maxHeartbeats 3200000 in
theorem all_cap (gn : ByteArray) (An Ai Ao : Option Addr) (cn ci co : Nat) (l : List Op1) (x : Int) (w : World) (h : FlatG w An Ai Ao l x) :
    Calls Tryz.prog 31 #[.agg #[.string gn, .slice An l.length cn, .slice Ai 1 ci, .slice Ao l.length co, .slice none 0 0]] w fun e w' => ∃ A c, e = .returned (.tuple #[.slice A (l.length + 1) c, .int .i64 0]) ∧ VlAt w' A (⟨#[120]⟩ :: l.map (·.out)) x ∧ Below w.heap.size w w' ∧ l.length + 1 ≤ c := by
  have H := Lib.hid h
  have H5 := h.ok.most
  have H0 := h.ok.pos
  have hmm := @run_makeMap Tryz.prog
  obtain ⟨i0, hi⟩ : ∃ i, Tryz.prog.info? 28 = some i ∧ i.zero = some (.agg #[.string ⟨#[]⟩, .int .i64 0, .slice none 0 0]) ∧ i.size = 3 ∧ i.bytes = 48 := by
    obtain ⟨i, h1, h2, h3, h4⟩ := info_parts Tryz.info28
    exact ⟨i, h1, h2, h3, h4⟩
  have HI := Lib.hid hi
  have hnl : (l.length : Int) ≤ 5 := by omega
  clear h hi
  go_enter Tryz.func31, Tryz.ntmps31
  go_wp2_with fail
  refine newX (F := fun W => Calls _ _ _ W _) ?_
  intro w1 h1
  refine (order_any gn An Ai Ao cn ci co l x w1 (H.out.below h1.below)).mono ?_
  rintro e w2 ⟨Aq, cq, rfl, hq, hb⟩
  have h2 := h1.all hb
  clear hb h1
  have HQ := Lib.hid hq
  have h3 := fx3 w2 (.cells #[.slice none 0 0] 29) (.map #[] 0) (.cells #[.map (some (w2.heap.size + 1))] 142)
  have HW := Lib.hid (h2.all (h3.below))
  have HS : Hid (AllSt w2 (((w2.alloc (.cells #[.slice none 0 0] 29)).alloc (.map #[] 0)).alloc (.cells #[.map (some (w2.heap.size + 1))] 142)) w2.heap.size (fun _ => none) 0 []) := Lib.hid ⟨h3.below, ⟨_, h3.b0 rfl, oz_nil⟩, mapIs_new (h3.b1 rfl), h3.b2 rfl, h3.size⟩
  clear h3 hq
  obtain ⟨r0, r1, r2, r3, r4, -⟩ := cells5 (HW.out.b0 rfl)
  go_wp2_with fail
  generalize ((w2.alloc (.cells #[.slice none 0 0] 29)).alloc (.map #[] 0)).alloc (.cells #[.map (some (w2.heap.size + 1))] 142) = w3 at HW HS r0 r1 r2 r3 r4 ⊢
  obtain ⟨b, off, rfl, hb, hc⟩ := (H.out.below HW.out.below).ins
  obtain ⟨Ad, cd, q0, q1, q2, q3⟩ := hc 0 _ rfl
  simp only [Nat.zero_mul, Nat.add_zero] at q0 q1 q2
  have hbx := below_new w3 (.cells #[.string ⟨#[120]⟩, .int .i64 6, .slice Ad 1 cd] 28)
  have hA := iadd_any ⟨#[120]⟩ Ad cd 0 w2.heap.size x _ [] w2 _ (HS.out.all hbx) (q3.below hbx) (by decide) (by omega) rfl (by simp)
  have e1 : ([] ++ [(⟨⟨#[120]⟩, 6, [x]⟩ : Vl)]) = vlsL l x 0 := by simp [vlsL]
  rw [e1] at hA
  have hz2 : w.heap.size + 1 ≤ w2.heap.size := h2.size
  have HW2 := Lib.hid h2
  clear h2 hc q3 HW HS hbx e1
  refine wp_loop_rounds 2 ?_
  rw [rounds_succ]
  go_wp2_with (go_at_call 64; refine hA.mono ?_; rintro e w4 ⟨rfl, hs4⟩)
  clear r0 r1 r2 r3 r4 q0 q1 q2 hA
  have hf4 := HW2.out.later (hs4.below.mono hz2)
  obtain ⟨r0, r1, r2, r3, r4, -⟩ := cells5 (hf4.b0 rfl)
  have HS := Lib.hid hs4
  have HF := Lib.hid hf4
  clear hs4 hf4
  rw [rounds_succ]
  go_wp2_with fail
  refine wp_loop_rounds 1 ?_
  rw [rounds_succ]
  go_wp2_with fail
  clear r0 r1 r2 r3 r4 hb
  go_loopw [66] (fun i wr => ∃ k : Nat, k ≤ l.length ∧ i = .int .i64 k ∧ AllSt w2 wr w2.heap.size (alF l k) (k + 1) (vlsL l x k)) (fun i _ => l.length - (intOf i).toNat)
  case atStart => exact ⟨0, by omega, rfl, HS.out⟩
  case round =>
    obtain ⟨k, hk, rfl, hs⟩ := hrel
    have hfx := HW2.out.later (hs.below.mono hz2)
    by_cases hlt : k < l.length
    · have hF := H.out.below hfx.below
      obtain ⟨bq, oq, rfl, hbq, hcq⟩ := HQ.out.below hs.below
      have cq0 := hcq k hlt
      obtain ⟨bn, offn, rfl, hbn, hcn⟩ := hF.nodes
      obtain ⟨o, ho⟩ : ∃ o, l[k]? = some o := ⟨_, List.getElem?_eq_getElem hlt⟩
      have hmem := List.mem_of_getElem? ho
      obtain ⟨nm, A', c, q0, q1, q2, q3, q4, q5⟩ := hcn k o ho
      have hwa := below_new wr (.cells #[.string o.op, .string nm, .slice A' o.m c, .string o.out, .slice none 0 0] 37)
      have hga := heap_alloc_new wr (.cells #[.string o.op, .string nm, .slice A' o.m c, .string o.out, .slice none 0 0] 37)
      obtain ⟨r0, r1, r2, r3, r4, -⟩ := cells5 (hfx.b0 rfl)
      obtain ⟨b2, off2, rfl, hb2, hc2⟩ := q5
      have hxs : Xs wr (some ⟨b2, off2, none⟩) o.m := ⟨b2, off2, rfl, hb2, hc2⟩
      have HXS := Lib.hid (hxs.below hwa)
      have HS1 := Lib.hid (hs.all hwa)
      have HG := Lib.hid (hF.gl.below hwa)
      have HOK := Lib.hid hF.ok
      have HO := Lib.hid ho
      have Hop := Lib.hid (hF.ok.ops o hmem)
      have Hout := Lib.hid (hF.ok.outs o hmem).1
      have Hsh := Lib.hid (hF.ok.short o hmem)
      have HGA := Lib.hid hga
      have HFX := Lib.hid (hfx.all hwa)
      clear hs hfx hF hcq hcn hwa hga hxs hc2 ho hmem
      go_wp2_with fail
      clear r0 r1 r2 r3 r4 cq0 q0 q1 q2 q3 q4
      obtain ⟨Av, cv, hvo, hvl, -⟩ := HS1.out.vls hk
      obtain ⟨bx, ox, rfl, hbx, hcx⟩ := hvl
      obtain ⟨Ax, cx, y0, y1, y2, y3⟩ := hcx 0 _ rfl
      simp only [Nat.zero_mul, Nat.add_zero] at y0 y1 y2
      have HY := Lib.hid (And.intro y0 (And.intro y1 (And.intro y2 y3)))
      have HVO := Lib.hid hvo
      have HBX := Lib.hid hbx
      have hzn : wr.heap.size < (wr.alloc (.cells #[.string o.op, .string nm, .slice (some ⟨b2, off2, none⟩) o.m c, .string o.out, .slice none 0 0] 37)).heap.size := by simp
      have HZN := Lib.hid hzn
      have HB1 := Lib.hid (below_new wr (.cells #[.string o.op, .string nm, .slice (some ⟨b2, off2, none⟩) o.m c, .string o.out, .slice none 0 0] 37))
      clear y0 y1 y2 y3 hcx hvo hbx hzn
      generalize wr.alloc (.cells #[.string o.op, .string nm, .slice (some ⟨b2, off2, none⟩) o.m c, .string o.out, .slice none 0 0] 37) = wa at HXS HS1 HG HGA HFX HY HVO HBX HZN HB1 ⊢
      generalize wr.heap.size = N at HGA HZN hb2 HB1 hbq hbn ⊢
      go_loopw [16, 78] (fun v i wy => ∃ j : Nat, j ≤ o.m ∧ i = .int .i64 j ∧ OwnL (repRaw 3) 28 wy wa.heap.size (fun _ => False) v (List.replicate j [.string ⟨#[120]⟩, .int .i64 6, .slice Ax 1 cx]) ∧ Below wa.heap.size wa wy) (fun _ i _ => o.m - (intOf i).toNat)
      case atStart => exact ⟨0, by omega, rfl, ownL_nil, Below.refl _ _⟩
      case round =>
        obtain ⟨j, hj, rfl, hown, hby⟩ := hrel
        have hm2 := Hop.out.cases
        by_cases hjm : j < o.m
        · obtain ⟨b2', off2', e2, hb2', hc2⟩ := HXS.out.below hby
          cases e2
          have c0 := hc2 j hjm
          have hs := HS1.out.all hby
          have hl := hs.map.look (s := ⟨#[120]⟩) Tryz.und142 (zero3 _) (by decide)
          rw [alF_x HOK.out k hk] at hl
          simp only [Option.getD_some] at hl
          obtain ⟨m0, -⟩ := cells1 hs.mc
          obtain ⟨o0, -⟩ := cells1 ((hby.block _ (by have := HS1.out.size; omega)).trans HVO.out)
          obtain ⟨y0, y1, y2, -⟩ := HY.out
          have x0 := (hby.cell (p := ⟨bx, ox, none⟩) HBX.out).trans y0
          have x1 := (hby.cell (p := ⟨bx, ox + 1, none⟩) HBX.out).trans y1
          have x2 := (hby.cell (p := ⟨bx, ox + 2, none⟩) HBX.out).trans y2
          have hlo := hby.size
          obtain ⟨A5, c5, e5⟩ := hown.form
          rw [List.length_replicate] at e5
          subst e5
          have HOWN := Lib.hid hown
          have HBY := Lib.hid hby
          have hkk : (0 : Int) < (k : Int) + 1 := by omega
          clear hown hby hs hc2 y0 y1 y2
          go_wp2_with (at_builtin; refine wpList_append_f wr (repRaw 3) (flatRaw 3) [.string ⟨#[120]⟩, .int .i64 6, .slice Ax 1 cx] [.string ⟨#[120]⟩, .int .i64 6, .slice Ax 1 cx] rfl (.tmp 82) (.tmp 89) 29 rfl 28 i0 _ 48 Tryz.underlying29 HI.out.1 HI.out.2.1 HI.out.2.2.1 HI.out.2.2.2 rfl (by decide) (by decide) wa.heap.size _ _ rfl HOWN.out ⟨rfl, rfl, by simp [Value.oneCell']⟩ wr.heap.size rfl rfl (by rw [List.length_replicate]; omega) hlo ?_; intro v' w7 ho7 hb7)
          refine ⟨⟨j + 1, by omega, by go_num, by rw [List.replicate_succ']; exact ho7, HBY.out.trans hb7⟩, by simp [intOf]; omega⟩
        · obtain rfl : j = o.m := by omega
          have hm0 : 0 < o.m := by omega
          obtain ⟨bi, cI, e5, hi1, hi2, hi3⟩ := hown.raw (by decide) (by simpa using hm0)
          rw [List.length_replicate] at e5
          subst e5
          obtain ⟨y0, y1, y2, y3⟩ := HY.out
          have hIV : InV wr (some ⟨bi, 0, none⟩) o.m x := ⟨bi, 0, rfl, hi2, fun j' hj' => ⟨⟨#[120]⟩, Ax, cx, by
            have := hi3 j' _ (by rw [List.getElem?_replicate, if_pos hj']) 0 (by decide)
            simpa using this, by
            have := hi3 j' _ (by rw [List.getElem?_replicate, if_pos hj']) 1 (by decide)
            simpa using this, by
            have := hi3 j' _ (by rw [List.getElem?_replicate, if_pos hj']) 2 (by decide)
            simpa using this, y3.below hby⟩⟩
          have hga := (hby.block N HZN.out).trans HGA.out
          obtain ⟨r0, r1, r2, r3, r4, -⟩ := cells5 hga
          have HS2 := Lib.hid (HS1.out.all hby)
          have HFX2 := Lib.hid (HFX.out.all hby)
          have hO := out_any o.op nm o.out (some ⟨b2, off2, none⟩) (some ⟨bi, 0, none⟩) o.m c cI x wr (HG.out.below hby) (HXS.out.below hby) hIV Hop.out Hout.out H.out.lo H.out.hi
          clear hown hby hi3 y0 y1 y2 y3 hIV hga hjm
          go_wp2_with fail
          refine hO.mono ?_
          rintro e w8 ⟨D8, c8, rfl, h8, hb8⟩
          have hs8 := (HS2.out.all hb8).all (below_new w8 (.cells #[.string o.out, .int .i64 6, .slice D8 1 c8] 28))
          have hA := iadd_any o.out D8 c8 (k + 1) w2.heap.size x _ _ w2 _ hs8 (h8.below (below_new w8 (.cells #[.string o.out, .int .i64 6, .slice D8 1 c8] 28))) Hsh.out (by omega) (by rw [alF_out HOK.out HO.out k hk, if_neg (Nat.lt_irrefl k)]) (by rw [vlsL_length hk]; omega)
          rw [vlsL_length hk, ← vlsL_succ HO.out] at hA
          have e1 : upd (alF l k) o.out (.int .i64 (k + 1 : Nat)) = alF l (k + 1) := by simp [alF, HO.out]
          rw [e1] at hA
          clear hs8 e1 hO h8 hb8 r0 r1 r2 r3 r4
          go_wp2_with (go_at_call 64; refine hA.mono ?_; rintro e w9 ⟨rfl, hs9⟩)
          go_roundw
          case rel => exact ⟨k + 1, by omega, by go_num, hs9⟩
          case measure => simp [intOf]; omega
    · obtain rfl : k = l.length := by omega
      obtain ⟨W0, hW0⟩ : ∃ W0, W0 = wr := ⟨_, rfl⟩
      subst hW0
      obtain ⟨Av, cv, hvo, hvl, hcap⟩ := hs.vls hk
      rw [List.take_length] at hvl
      obtain ⟨r0, r1, r2, r3, r4, -⟩ := cells5 (hfx.b0 rfl)
      have HS0 := Lib.hid hs
      have HFX := Lib.hid hfx
      have HVO := Lib.hid hvo
      have HVL := Lib.hid hvl
      clear hs hfx hvo hvl hlt HS HF
      go_wp2_with fail
      clear r0 r1 r2 r3 r4
      go_loopw [108] (fun i wr => ∃ k : Nat, k ≤ l.length ∧ i = .int .i64 k ∧ Below W0.heap.size W0 wr) (fun i _ => l.length - (intOf i).toNat)
      case atStart => exact ⟨0, by omega, rfl, Below.refl _ _⟩
      case round =>
        obtain ⟨k, hk, rfl, hbw⟩ := hrel
        have hs := HS0.out.all hbw
        obtain ⟨o0, -⟩ := cells1 ((hbw.block _ (by have := HS0.out.size; omega)).trans HVO.out)
        by_cases hlt : k < l.length
        · obtain ⟨m0, -⟩ := cells1 hs.mc
          have hF := H.out.below (HFX.out.all hbw).below
          obtain ⟨bv, offv, rfl, hbv, hcv⟩ := hF.outs
          obtain ⟨o, ho⟩ : ∃ o, l[k]? = some o := ⟨_, List.getElem?_eq_getElem hlt⟩
          have hmem := List.mem_of_getElem? ho
          obtain ⟨Ad, c, q0, q1, q2, q3⟩ := hcv k o.out (by simp [ho])
          have hwa := below_new wr (.cells #[.string o.out, .int .i64 6, .slice Ad 1 c] 28)
          have hl := (hs.map.below hwa).look (s := o.out) Tryz.und142 (zero3 _) (hF.ok.short o hmem)
          rw [alF_out hF.ok ho l.length (Nat.le_refl _), if_pos hlt] at hl
          simp only [Option.getD_some] at hl
          obtain ⟨bx, ox, rfl, hbx, hcx⟩ := HVL.out.below hbw
          obtain ⟨Ax, cx, y0, y1, y2, y3⟩ := hcx (k + 1) o.out (by simp [ho])
          have hwb := (hwa.trans ((below_new (wr.alloc (.cells #[.string o.out, .int .i64 6, .slice Ad 1 c] 28)) (.cells #[.string o.out, .int .i64 6, .slice Ax 1 cx] 28)).mono (by simp)))
          have hE := equal1_any _ Ax Ad cx c x (y3.below hwb) (q3.below hwb)
          have n1 : bx < wr.heap.size + 1 := by omega
          have n2 : w2.heap.size + 1 + 1 < wr.heap.size := by have := hs.size; omega
          have n3 : w2.heap.size < wr.heap.size := by omega
          have HB1 := Lib.hid (hbw.trans (hwb.mono hbw.size))
          clear hs hF hcv hcx hwa hwb y3 q3 hbw ho hmem
          go_wp2_with (go_at_call 67; refine hE.mono ?_; rintro e w9 ⟨rfl, hb9⟩)
          refine ⟨⟨k + 1, by omega, by go_num, HB1.out.trans (hb9.mono HB1.out.size)⟩, by simp [intOf]; omega⟩
        · obtain rfl : k = l.length := by omega
          have HR := Lib.hid (HVL.out.below hbw)
          have HB := Lib.hid ((HFX.out.all hbw).below)
          clear hs hlt hbw
          go_wp2_with fail
          go_ret2
          exact ⟨_, _, rfl, HR.out, HB.out, hcap⟩
theorem all_any (gn : ByteArray) (An Ai Ao : Option Addr) (cn ci co : Nat) (l : List Op1) (x : Int) (w : World) (h : FlatG w An Ai Ao l x) :
    Calls Tryz.prog 31 #[.agg #[.string gn, .slice An l.length cn, .slice Ai 1 ci, .slice Ao l.length co, .slice none 0 0]] w fun e w' => ∃ A c, e = .returned (.tuple #[.slice A (l.length + 1) c, .int .i64 0]) ∧ VlAt w' A (⟨#[120]⟩ :: l.map (·.out)) x ∧ Below w.heap.size w w' := by
  refine (all_cap gn An Ai Ao cn ci co l x w h).mono ?_
  rintro e w' ⟨A, c, h1, h2, h3, -⟩
  exact ⟨A, c, h1, h2, h3⟩
end Go.Proofs.YtbilddeepnnogaaGreatDoor
end
