import Derived.Test.YtbilddeepnnogaaGreatDoorHf
set_option linter.unusedVariables false
set_option linter.unusedSimpArgs false
/- The arena's plan: one value behind the other. -/
set_option linter.unusedVariables false
set_option maxRecDepth 100000
namespace Go.Proofs.YtbilddeepnnogaaGreatDoor
open Go.RowKit Go.Shelf

/-- The places of the values in memory: one behind the other. -/
def PlcAt (w : World) (A : Option Addr) (l : List Op1) (x : Nat) : Prop := ∃ b, A = some ⟨b, 0, none⟩ ∧ b < w.heap.size ∧ ∀ (j : Nat) (o : Op1), l[j]? = some o → w.cell? ⟨b, j * 3, none⟩ = some (.string o.out) ∧ w.cell? ⟨b, j * 3 + 1, none⟩ = some (.int .i64 (j * up8 (4 * x) : Nat)) ∧ w.cell? ⟨b, j * 3 + 2, none⟩ = some (.int .i64 (4 * (x : Int)))
theorem PlcAt.below {w w' : World} {A : Option Addr} {l : List Op1} {x : Nat} (h : PlcAt w A l x) (hb : Below w.heap.size w w') : PlcAt w' A l x := by
  obtain ⟨b, rfl, h1, h2⟩ := h
  refine ⟨b, rfl, Nat.lt_of_lt_of_le h1 hb.size, fun j o hj => ?_⟩
  obtain ⟨q0, q1, q2⟩ := h2 j o hj
  have ce : ∀ i, w'.cell? ⟨b, i, none⟩ = w.cell? ⟨b, i, none⟩ := fun i => hb.cell (p := ⟨b, i, none⟩) h1
  exact ⟨(ce _).trans q0, (ce _).trans q1, (ce _).trans q2⟩
/-- The planner at work: k values are laid. -/
structure PnSt (w1 w2 wr : World) (p bV cV bO cO : Nat) (gn : ByteArray) (An Ai Ao : Option Addr) (cn ci co : Nat) (B R T : Value) (l : List Op1) (x k q s : Nat) (P : Value) (ps : List (List Value)) (at_ : Nat → Int) : Prop where
  below : Below w1.heap.size w1 wr
  size : w2.heap.size ≤ wr.heap.size
  row : wr.heap[p]? = some (.cells #[.string gn, .slice An l.length cn, .slice Ai 1 ci, .slice Ao l.length co, .slice none 0 0, B, .slice (some ⟨bV, 0, none⟩) l.length cV, R, .slice (some ⟨bO, 0, none⟩) l.length cO, T, .int .i64 s, P, .slice none 0 0] 135 (0, 0))
  vals : PvAt wr w1.heap.size bV l x at_
  laid : ∀ j, j < k → at_ j = (j * up8 (4 * x) : Nat)
  outs : ∀ j, j < l.length → wr.cell? ⟨bO, j, none⟩ = some (.bool true)
  own : OZ (repRaw 3) 138 wr w2.heap.size P ps
  len : ps.length = q
  rows : ∀ (j : Nat) (r : List Value), ps[j]? = some r → ∃ o : Op1, l[j]? = some o ∧ r = [.string o.out, .int .i64 (j * up8 (4 * x) : Nat), .int .i64 (4 * (x : Int))]
section
variable {w1 w2 wr w' : World} {p bV cV bO cO : Nat} {gn : ByteArray} {An Ai Ao : Option Addr} {cn ci co : Nat} {B R T : Value} {l : List Op1} {x k q s : Nat} {P : Value} {ps : List (List Value)} {at_ : Nat → Int}
theorem PnSt.since (h : PnSt w1 w2 wr p bV cV bO cO gn An Ai Ao cn ci co B R T l x k q s P ps at_) (hs : Since wr w') (h1 : w1.heap.size ≤ wr.heap.size) : PnSt w1 w2 w' p bV cV bO cO gn An Ai Ao cn ci co B R T l x k q s P ps at_ :=
  ⟨h.below.trans (hs.mono h1), Nat.le_trans h.size hs.size, hs.kp h.row, h.vals.since hs, h.laid, fun j hj => (hs.cell (p := ⟨bO, j, none⟩) (World.block_lt_of_cell? wr ⟨bO, j, none⟩ (h.outs j hj))).trans (h.outs j hj), h.own.below hs, h.len, h.rows⟩
/-- One more is laid. -/
theorem PnSt.lay (h : PnSt w1 w2 wr p bV cV bO cO gn An Ai Ao cn ci co B R T l x k q s P ps at_) (ho : Only bV wr w') (hv : PvAt w' w1.heap.size bV l x (laidAt at_ k (k * up8 (4 * x) : Nat))) (h1 : bV ≠ p) (h2 : bV ≠ bO) (h3 : bV < w2.heap.size) (h4 : w1.heap.size ≤ bV) (h5 : w1.heap.size ≤ wr.heap.size) : PnSt w1 w2 w' p bV cV bO cO gn An Ai Ao cn ci co B R T l x (k + 1) q s P ps (laidAt at_ k (k * up8 (4 * x) : Nat)) := by
  have hp := (Array.getElem?_eq_some_iff.1 h.row).1
  refine ⟨h.below.trans (ho.below h4 h5), Nat.le_trans h.size ho.size, (ho.block p hp (fun e => h1 e.symm)).trans h.row, hv, fun j hj => ?_, fun j hj => ?_, h.own.keep (fun k hk hk' => ho.block k hk' (by omega)) ho.size, h.len, h.rows⟩
  · by_cases e : j = k
    · subst e
      simp [laidAt]
    · rw [laidAt, if_neg e]
      exact h.laid j (by omega)
  · exact (World.cell?_of_block (a := ⟨bO, j, none⟩) (ho.block bO (World.block_lt_of_cell? wr ⟨bO, j, none⟩ (h.outs j hj)) (fun e => h2 e.symm))).trans (h.outs j hj)
theorem PvAt.keep {B0 b : Nat} (h : PvAt wr B0 b l x at_) (hb : w'.heap[b]? = wr.heap[b]?) (hk : ∀ k, k < B0 → k < wr.heap.size → w'.heap[k]? = wr.heap[k]?) (hs : wr.heap.size ≤ w'.heap.size) : PvAt w' B0 b l x at_ := by
  obtain ⟨h1, h2, h3⟩ := h
  refine ⟨Nat.lt_of_lt_of_le h1 hs, fun i => by rw [World.frozen?_of_block (a := ⟨b, i, none⟩) hb]; exact h2 i, fun j o hj => ?_⟩
  obtain ⟨nm, A, c, q0, q1, q2, q3, q4, q5, q6, q7, q8, ⟨b2, off2, rfl, hb2, hc2⟩, q9⟩ := h3 j o hj
  have ce : ∀ i, w'.cell? ⟨b, i, none⟩ = wr.cell? ⟨b, i, none⟩ := fun i => World.cell?_of_block (a := ⟨b, i, none⟩) hb
  exact ⟨nm, _, c, (ce _).trans q0, (ce _).trans q1, (ce _).trans q2, (ce _).trans q3, (ce _).trans q4, (ce _).trans q5, (ce _).trans q6, (ce _).trans q7, (ce _).trans q8, ⟨b2, off2, rfl, Nat.lt_of_lt_of_le hb2 hs, fun j hj => (World.cell?_of_block (a := ⟨b2, off2 + j, none⟩) (hk b2 (q9 _ rfl).1 hb2)).trans (hc2 j hj)⟩, q9⟩
/-- A cell of the planner's own block turns. -/
theorem PnSt.turn (h : PnSt w1 w2 wr p bV cV bO cO gn An Ai Ao cn ci co B R T l x k q s P ps at_) (n1 : bV ≠ p) (n2 : bO ≠ p) (n3 : w1.heap.size ≤ p) (n4 : p < w2.heap.size) (i : Nat) (u : Value) : Below w1.heap.size w1 (wr.setCell ⟨p, i, none⟩ u) ∧ PvAt (wr.setCell ⟨p, i, none⟩ u) w1.heap.size bV l x at_ ∧ (∀ j, j < l.length → (wr.setCell ⟨p, i, none⟩ u).cell? ⟨bO, j, none⟩ = some (.bool true)) ∧ OZ (repRaw 3) 138 (wr.setCell ⟨p, i, none⟩ u) w2.heap.size P ps ∧ (wr.setCell ⟨p, i, none⟩ u).heap.size = wr.heap.size := by
  have hz : (wr.setCell ⟨p, i, none⟩ u).heap.size = wr.heap.size := by simp [World.setCell]
  have hk : ∀ k, k ≠ p → (wr.setCell ⟨p, i, none⟩ u).heap[k]? = wr.heap[k]? := fun k hk => Below.heap_setCell _ _ _ _ hk
  exact ⟨h.below.setCell n3 u, h.vals.keep (hk _ n1) (fun k h1 _ => hk k (by omega)) (by omega), fun j hj => (World.cell?_of_block (a := ⟨bO, j, none⟩) (hk _ n2)).trans (h.outs j hj), h.own.keep (fun k h1 _ => hk k (by omega)) (by omega), hz⟩
/-- The size grows. -/
theorem PnSt.size10 (h : PnSt w1 w2 wr p bV cV bO cO gn An Ai Ao cn ci co B R T l x k q s P ps at_) (n1 : bV ≠ p) (n2 : bO ≠ p) (n3 : w1.heap.size ≤ p) (n4 : p < w2.heap.size) (t : Nat) : PnSt w1 w2 (wr.setCell ⟨p, 10, none⟩ (.int .i64 t)) p bV cV bO cO gn An Ai Ao cn ci co B R T l x k q t P ps at_ := by
  obtain ⟨a, b, c, d, e⟩ := h.turn n1 n2 n3 n4 10 (.int .i64 t)
  exact ⟨a, by rw [e]; exact h.size, by simpa using heap_setCell_same _ _ 10 _ _ (.int .i64 t) h.row, b, h.laid, c, d, h.len, h.rows⟩
/-- One place more is told. -/
theorem PnSt.come (h : PnSt w1 w2 wr p bV cV bO cO gn An Ai Ao cn ci co B R T l x k q s P ps at_) {P' : Value} {r : List Value} (hz : OZ (repRaw 3) 138 w' w2.heap.size P' (ps ++ [r])) (hg : wr.grownBy w' P.ownBlock) (hr : ∃ o : Op1, l[q]? = some o ∧ r = [.string o.out, .int .i64 (q * up8 (4 * x) : Nat), .int .i64 (4 * (x : Int))]) (n1 : bV ≠ p) (n2 : bO ≠ p) (n3 : w1.heap.size ≤ p) (n4 : p < w2.heap.size) (n5 : bV < w2.heap.size) (n6 : bO < w2.heap.size) : PnSt w1 w2 (w'.setCell ⟨p, 11, none⟩ P') p bV cV bO cO gn An Ai Ao cn ci co B R T l x k (q + 1) s P' (ps ++ [r]) at_ := by
  have hP := h.own.row_lt
  have hsz := h.size
  have hk : ∀ k, k < w2.heap.size → w'.heap[k]? = wr.heap[k]? := fun k hk => hg.block k (by omega) (fun e => by have := (hP k e.symm).1; omega)
  have h0 : Below w1.heap.size w1 w' := ⟨hg.os.trans h.below.os, hg.tape.trans h.below.tape, hg.output.trans h.below.output, Nat.le_trans h.below.size hg.size, fun k hk' => (hk k (by omega)).trans (h.below.block k hk')⟩
  have hrow := (hk p n4).trans h.row
  have hk2 : ∀ k, k ≠ p → (w'.setCell ⟨p, 11, none⟩ P').heap[k]? = w'.heap[k]? := fun k hk => Below.heap_setCell _ _ _ _ hk
  have hz2 : (w'.setCell ⟨p, 11, none⟩ P').heap.size = w'.heap.size := by simp [World.setCell]
  have hgs := hg.size
  refine ⟨h0.setCell n3 P', by omega, by simpa using heap_setCell_same _ _ 11 _ _ P' hrow, h.vals.keep ((hk2 _ n1).trans (hk _ n5)) (fun k h1 _ => (hk2 k (by omega)).trans (hk k (by omega))) (by omega), h.laid, fun j hj => (World.cell?_of_block (a := ⟨bO, j, none⟩) ((hk2 _ n2).trans (hk _ n6))).trans (h.outs j hj), hz.keep (fun k h1 _ => hk2 k (by omega)) (by omega), by rw [List.length_append, h.len]; rfl, fun j r' hj => ?_⟩
  rcases Nat.lt_or_ge j ps.length with h1 | h1
  · rw [List.getElem?_append_left h1] at hj
    exact h.rows j r' hj
  · rw [List.getElem?_append_right h1] at hj
    have h2 : j - ps.length = 0 := by
      rcases Nat.eq_zero_or_pos (j - ps.length) with h2 | h2
      · exact h2
      · rw [List.getElem?_eq_none (by simp; omega)] at hj
        cases hj
    rw [h2] at hj
    cases hj
    obtain rfl : j = q := by have := h.len; omega
    exact hr
end
set_option maxHeartbeats 6400000 in
theorem plan_any (gn : ByteArray) (An Ai Ao : Option Addr) (cn ci co : Nat) (l : List Op1) (x : Nat) (w : World) (h : FlatG w An Ai Ao l x) :
    Calls Tryz.prog 27 #[.agg #[.string gn, .slice An l.length cn, .slice Ai 1 ci, .slice Ao l.length co, .slice none 0 0]] w fun e w' => ∃ A c, e = .returned (.tuple #[.agg #[.int .i64 (l.length * up8 (4 * x) : Nat), .slice A l.length c, .slice none 0 0], .int .i64 0]) ∧ PlcAt w' A l x ∧ l.length ≤ c ∧ Below w.heap.size w w' := by
  have H := Lib.hid h
  have H5 := h.ok.most
  have H0 := h.ok.pos
  have hnl : (l.length : Int) ≤ 5 := by omega
  have hx := h.hi
  have hx1 := h.lo
  clear h
  go_enter Tryz.func27, Tryz.ntmps27
  go_wp2_with fail
  refine newX2 (F := fun W => Calls _ _ _ W _) ?_
  intro w1 h1
  refine (abegin_any gn An Ai Ao cn ci co l x w1 (H.out.below h1.below)).mono ?_
  rintro e w2 ⟨p, bV, cV, bO, cO, B, R, T, rfl, hrow, hpv, houts, hbp, hop, hbo, np, nV, nO, hb⟩
  have hu : up8 (4 * x) ≤ 120 := up8_le (by omega)
  have hmb : l.length * up8 (4 * x) ≤ 5 * 120 := Nat.mul_le_mul (by omega) hu
  generalize hm : l.length * up8 (4 * x) = m at hmb ⊢
  have hmi : (m : Int) ≤ 600 := by omega
  have p6 : w2.cell? ⟨p, 6, none⟩ = some (.slice (some ⟨bV, 0, none⟩) l.length cV) := cell_of_row _ _ 6 _ 135 (0, 0) hrow
  have npl : p < w2.heap.size := (Array.getElem?_eq_some_iff.1 hrow).1
  have nVl : bV < w2.heap.size := hpv.1
  have nOl : bO < w2.heap.size := World.block_lt_of_cell? w2 ⟨bO, 0, none⟩ (houts 0 H0)
  have z12 := hb.size
  have z1 := h1.size
  simp only [List.length_cons, List.length_nil] at z1
  have HS0 : Hid (PnSt w1 w2 w2 p bV cV bO cO gn An Ai Ao cn ci co B R T l x 0 0 0 (.slice none 0 0) [] (fun _ => 0)) := Lib.hid ⟨hb, Nat.le_refl _, hrow, hpv, fun j hj => by omega, houts, oz_nil, rfl, fun j r h => by simp at h⟩
  have HX := Lib.hid h1
  clear hrow hpv houts hb h1
  go_wp2_with fail
  go_loopw [27] (fun i wr => ∃ k : Nat, k ≤ l.length ∧ i = .int .i64 k ∧ ∃ (P : Value) (ps : List (List Value)) (at_ : Nat → Int), PnSt w1 w2 wr p bV cV bO cO gn An Ai Ao cn ci co B R T l x k k (k * up8 (4 * x)) P ps at_) (fun i _ => l.length - (intOf i).toNat)
  case atStart => exact ⟨0, by omega, rfl, _, _, _, by rw [Nat.zero_mul]; exact HS0.out⟩
  case round =>
    obtain ⟨k, hk, rfl, P, ps, at_, hs⟩ := hrel
    have zr := hs.size
    by_cases hlt : k < l.length
    · obtain ⟨o, ho⟩ : ∃ o, l[k]? = some o := ⟨_, List.getElem?_eq_getElem hlt⟩
      have hR := replace_no p bV cV l H.out.ok x at_ k hlt wr (cell_of_row _ _ 6 _ 135 (0, 0) hs.row) hs.vals
      have HL := Lib.hid (fun W (hW : Since wr W) => have h := hs.since hW (by omega); lay_any p bV cV bO cO l H.out.ok x (by omega) (by omega) at_ k hlt W (cell_of_row _ _ 6 _ 135 (0, 0) h.row) (cell_of_row _ _ 8 _ 135 (0, 0) h.row) h.outs h.vals h.laid)
      have HS := Lib.hid hs
      have HLO := Lib.hid ho
      clear hs ho
      go_wp2_with (first | (go_at_call 58; refine hR.mono ?_; rintro e w3 ⟨rfl, hs3⟩; have HS3 := Lib.hid hs3; clear hs3) | (go_at_call 59; refine (HL.out _ HS3.out).mono ?_; rintro e w4 ⟨rfl, hv4, ho4⟩; have h4 := (HS.out.since HS3.out (by omega)).lay ho4 hv4 hbp hbo nVl nV (by have := HS3.out.size; omega); have p6' : w4.cell? ⟨p, 6, none⟩ = some (.slice (some ⟨bV, 0, none⟩) l.length cV) := cell_of_row _ _ 6 _ 135 (0, 0) h4.row; obtain ⟨hbl, -, hcv⟩ := h4.vals; obtain ⟨nm, A', c', -, -, -, -, -, -, q6, q7, q8, -⟩ := hcv k _ HLO.out; clear hcv hv4 ho4; have H4 := Lib.hid h4; clear h4; rw [laidAt, if_pos rfl] at q7; generalize hmk : k * up8 (4 * x) = mk at q7))
      refine newX (F := fun W => Code.wp _ _ _ _ W) ?_
      intro w5 h5
      have h4 := H4.out.since h5.below (by have := H4.out.size; omega)
      obtain ⟨c0, c1, c2, -⟩ := cells3 (h5.b0 rfl)
      obtain ⟨Ap, cp, hP⟩ := h4.own.form
      rw [h4.len] at hP
      subst hP
      have p11 : w5.cell? ⟨p, 11, none⟩ = some (.slice Ap k cp) := cell_of_row _ _ 11 _ 135 (0, 0) h4.row
      have z5 : w4.heap.size < w5.heap.size := h5.size
      have zw5 := h4.size
      have npw : p < w5.heap.size := by omega
      have HX5 := Lib.hid h5
      have HB5 := Lib.hid (h5.b0 rfl)
      have HS5 := Lib.hid (h4.since (Since.refl w5).dr (by omega))
      obtain ⟨i138, hi138⟩ : ∃ i, Tryz.prog.info? 138 = some i ∧ i.zero = some (.agg #[.string ⟨#[]⟩, .int .i64 0, .int .i64 0]) ∧ i.size = 3 ∧ i.bytes = 32 := by
        obtain ⟨i, h1, h2, h3, h4⟩ := info_parts Tryz.info138
        exact ⟨i, h1, h2, h3, h4⟩
      have HI := Lib.hid hi138
      clear h4 h5 hi138
      go_cut [27] from 27 to 73 (fun v wx => v = .int .i64 k ∧ ∃ (P : Value) (ps : List (List Value)), PnSt w1 w2 wx p bV cV bO cO gn An Ai Ao cn ci co B R T l x (k + 1) (k + 1) (k * up8 (4 * x)) P ps (laidAt at_ k (k * up8 (4 * x) : Nat)) ∧ wx.heap[w4.heap.size]? = some (.cells #[.string o.out, .int .i64 mk, .int .i64 (4 * (x : Int))] 138 (0, 0)))
      case first =>
        first | (go_region_law (first
          | (refine step_append_z w5.drew (repRaw 3) [.string o.out, .int .i64 mk, .int .i64 (4 * (x : Int))] [.string o.out, .int .i64 mk, .int .i64 (4 * (x : Int))] rfl (.tmp 50) (.tmp 52) 50 rfl 138 i138 _ 32 Tryz.underlying50 HI.out.1 HI.out.2.1 HI.out.2.2.1 HI.out.2.2.2 rfl (by decide) (by decide) w2.heap.size (.slice Ap k cp) ps rfl HS5.out.own (fun _ => False) ⟨rfl, rfl, by simp [Value.oneCell']⟩ (fun _ h => h.elim) w5.drew.heap.size rfl rfl (by have := HS5.out.len; omega) zw5 ?_; intro v' w7 hz7 hg7; obtain ⟨A7, c7, e7⟩ := hz7.form; rw [List.length_append, HS5.out.len] at e7; subst e7; have g7 := (hg7.block p npw (fun e => by have := (HS5.out.own.row_lt _ e.symm).1; omega)).trans HS5.out.row; have y11 : w7.cell? ⟨p, 11, none⟩ = some (.slice Ap k cp) := cell_of_row _ _ 11 _ 135 (0, 0) g7; have yf11 := frozen_row g7 11))) | fail
        all_goals
          have hbox := (hg7.block w4.heap.size z5 (fun e => by have := (H4.out.own.row_lt _ e.symm).2; omega)).trans HB5.out
          go_wp2_with fail
          go_meet
          exact ⟨rfl, _, _, HS5.out.come hz7 hg7 ⟨o, HLO.out, by rw [hmk]⟩ hbp hop np npl nVl nOl, (Below.heap_setCell _ _ _ _ (by show w4.heap.size ≠ p; have := H4.out.size; omega)).trans hbox⟩
      case rest =>
        obtain ⟨rfl, P8, ps8, hs8, hbox⟩ := hcut
        obtain ⟨c0, c1, c2, -⟩ := cells3 hbox
        have p10 : wc.cell? ⟨p, 10, none⟩ = some (.int .i64 mk) := by rw [← hmk]; exact cell_of_row _ _ 10 _ 135 (0, 0) hs8.row
        have f10 := frozen_row hs8.row 10
        have hu2 : k * up8 (4 * x) ≤ 5 * 120 := Nat.mul_le_mul (by omega) hu
        have hst := up8_step (4 * x) k
        rw [hmk] at hst hu2
        generalize hm2 : (k + 1) * up8 (4 * x) = m2 at hst
        have hle : mk ≤ m2 := by rw [← hmk, ← hm2]; exact Nat.mul_le_mul_right _ (by omega)
        have hU : ∀ w, Calls Tryz.prog 60 #[.int .i64 (IntKind.i64.wrap ((mk : Int) + 4 * (x : Int)))] w fun e w' => e = .returned (.int .i64 (m2 : Int)) ∧ w' = w := fun w => by
          have h := up_any (mk + 4 * x) (by omega) w
          rw [hst] at h
          rw [show IntKind.i64.wrap ((mk : Int) + 4 * (x : Int)) = ((mk + 4 * x : Nat) : Int) by rw [IntKind.wrap_i64]; omega]
          exact h
        have hmx : max (mk : Int) (m2 : Int) = (m2 : Int) := by omega
        have hmm : (mk : Int) ≤ 600 := by omega
        have HS8 := Lib.hid hs8
        clear hs8 hbox
        go_wp2_with fail
        go_region_with (first | (go_at_call 60; refine (hU _).mono ?_; rintro e w9 ⟨rfl, rfl⟩))
        all_goals
          go_wp2_with fail
          go_roundw
          case rel => exact ⟨k + 1, by omega, by go_num, P8, ps8, _, by rw [hm2]; exact (HS8.out.size10 hbp hop np npl m2).since (Since.refl _).dr (by have := HS8.out.size; simp [World.setCell]; omega)⟩
          case measure => simp [intOf]; omega
    · obtain rfl : k = l.length := by omega
      obtain ⟨Z, hown, -⟩ := id hs.own
      obtain ⟨bp, cp, hP, hbp1, hbp2, hcl⟩ := hown.raw (by decide) (by rw [hs.len]; exact H0)
      rw [hs.len] at hP
      subst hP
      have hcp := hs.own.cap
      have hx1 := HX.out.all hs.below
      have g1 := hx1.b1 rfl
      obtain ⟨y0, y1, y2, f0, f1, f2⟩ := cells3 g1
      have p10 : wr.cell? ⟨p, 10, none⟩ = some (.int .i64 m) := by rw [← hm]; exact cell_of_row _ _ 10 _ 135 (0, 0) hs.row
      have p11 : wr.cell? ⟨p, 11, none⟩ = some (.slice (some ⟨bp, 0, none⟩) l.length cp) := cell_of_row _ _ 11 _ 135 (0, 0) hs.row
      have p12 : wr.cell? ⟨p, 12, none⟩ = some (.slice none 0 0) := cell_of_row _ _ 12 _ 135 (0, 0) hs.row
      have HS := Lib.hid hs
      have HX1 := Lib.hid hx1
      have HCL := Lib.hid hcl
      have npw : p ≠ w.heap.size + 1 := by omega
      clear hs hown hx1 hcl
      go_wp2_with fail
      refine put3 (F := fun W => bodyPost Tryz.prog Tryz.f27 _ Exit.ret _ W) g1 ?_
      intro w9 g9 hk9 hb9 hz9
      refine bodyPost_ret (res_row_tmp rfl _ _ (w.heap.size + 1) 53 _ (0, 0) _ rfl g9 Tryz.underlying53 rfl (by kernel_rfl)) rfl ?_
      have hB9 : Below w.heap.size w w9 := HX1.out.below.trans (hb9.mono (by omega))
      refine ⟨_, _, by rw [hm]; rfl, ⟨bp, rfl, by omega, fun j o ho => ?_⟩, hcp, hB9⟩
      have hj : j < l.length := (List.getElem?_eq_some_iff.1 ho).1
      obtain ⟨r, hr⟩ : ∃ r, ps[j]? = some r := ⟨_, List.getElem?_eq_getElem (by have := HS.out.len; omega)⟩
      obtain ⟨o', ho', rfl⟩ := HS.out.rows j r hr
      rw [ho] at ho'
      cases ho'
      have ce : ∀ i, w9.cell? ⟨bp, i, none⟩ = wr.cell? ⟨bp, i, none⟩ := fun i => World.cell?_of_block (a := ⟨bp, i, none⟩) (hk9 bp (by omega))
      have hc := HCL.out j _ hr
      exact ⟨(ce _).trans (hc 0 (by decide)), (ce _).trans (hc 1 (by decide)), (ce _).trans (hc 2 (by decide))⟩
end Go.Proofs.YtbilddeepnnogaaGreatDoor
