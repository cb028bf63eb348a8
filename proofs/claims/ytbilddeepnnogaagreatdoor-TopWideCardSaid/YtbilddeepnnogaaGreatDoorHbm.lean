import Derived.Test.YtbilddeepnnogaaGreatDoorFgm
import Derived.BigQuiet
import Derived.StillTailTactics
import Derived.Test.YtbilddeepnnogaaGreatDoorFem
import Derived.Test.YtbilddeepnnogaaGreatDoorMam
import Derived.Test.YtbilddeepnnogaaGreatDoorFam
import Derived.Test.YtbilddeepnnogaaGreatDoorIam
set_option linter.unusedVariables false
set_option linter.unusedSimpArgs false
/- The arena's small functions. -/
section
set_option linter.unusedVariables false
set_option maxRecDepth 100000
namespace Go.Proofs.YtbilddeepnnogaaGreatDoor
open Go.RowKit Go.Shelf

/-- The next place that may be begun. -/
def up8 (n : Nat) : Nat := (n + 7) / 8 * 8
theorem up_bits : ((List.range 1000).all fun k => decide (bits BinOp.andNot IntKind.i64 ((k : Int) + 7) 7 = (up8 k : Int))) = true := by kernel_rfl
theorem up_at {k : Nat} (h : k < 1000) : bits BinOp.andNot IntKind.i64 ((k : Int) + 7) 7 = (up8 k : Int) := by
  have := List.all_eq_true.1 up_bits k (List.mem_range.2 h)
  exact of_decide_eq_true this
theorem up_any (k : Nat) (h : k < 1000) (w : World) : Calls Tryz.prog 60 #[.int .i64 k] w fun e w' => e = .returned (.int .i64 (up8 k)) ∧ w' = w := by
  have hu := up_at h
  have hk : (k : Int) < 1000 := by omega
  go_enter Tryz.func60, Tryz.ntmps60
  go_wp2_with fail
  go_ret
  show Ending.returned (.int .i64 (bits BinOp.andNot .i64 ((k : Int) + 8 - 1) 7)) = _ ∧ _
  rw [show (k : Int) + 8 - 1 = (k : Int) + 7 by omega, hu]
  exact ⟨rfl, rfl⟩
set_option maxHeartbeats 1600000 in
theorem inPlace_any (op : ByteArray) (m : Nat) (h : NdOp op m) (w : World) : Calls Tryz.prog 125 #[.string op] w fun e w' => (∃ y, e = .returned (.bool y)) ∧ w' = w := by
  rcases h.words with rfl | rfl | rfl | rfl
  all_goals
    go_enter Tryz.func125, Tryz.ntmps125
    go_wp2_with fail
    first | (rw [Exit.noGoto_ret]) | skip
    go_ret
    exact ⟨⟨_, rfl⟩, rfl⟩
set_option maxHeartbeats 1600000 in
/-- A value that is put out is never done with. -/
theorem done_no (p bo co n a : Nat) (b : Int) (W : World) (hn : n ≤ 5) (ha : a < n) (h8 : W.cell? ⟨p, 8, none⟩ = some (.slice (some ⟨bo, 0, none⟩) n co)) (h0 : W.cell? ⟨bo, a, none⟩ = some (.bool true)) :
    Calls Tryz.prog 130 #[.pointer (some ⟨p, 0, none⟩), .int .i64 a, .int .i64 b] W fun e W' => e = .returned (.bool false) ∧ Since W W' := by
  have n1 := World.block_lt_of_cell? W ⟨p, 8, none⟩ h8
  have n2 := World.block_lt_of_cell? W ⟨bo, a, none⟩ h0
  dsimp only at n1 n2
  have hnl : (n : Int) ≤ 5 := by omega
  have hai : (a : Int) < (n : Int) := by omega
  go_enter Tryz.func130, Tryz.ntmps130
  go_wp2_with fail
  go_quiet (fail)
  go_wp2_with fail
  go_ret
  exact ⟨rfl, (((Since.refl W).al _).al _).drN _⟩
/-- The planner's values in block b: nodes, types, places. -/
def PvAt (w : World) (B0 b : Nat) (l : List Op1) (x : Int) (at_ : Nat → Int) : Prop := b < w.heap.size ∧ (∀ i, w.frozen? ⟨b, i, none⟩ = false) ∧ ∀ (j : Nat) (o : Op1), l[j]? = some o → ∃ nm A c, w.cell? ⟨b, j * 9, none⟩ = some (.string o.op) ∧ w.cell? ⟨b, j * 9 + 1, none⟩ = some (.string nm) ∧ w.cell? ⟨b, j * 9 + 2, none⟩ = some (.slice A o.m c) ∧ w.cell? ⟨b, j * 9 + 3, none⟩ = some (.string o.out) ∧ w.cell? ⟨b, j * 9 + 4, none⟩ = some (.slice none 0 0) ∧ w.cell? ⟨b, j * 9 + 5, none⟩ = some (.int .i64 6) ∧ w.cell? ⟨b, j * 9 + 6, none⟩ = some (.string o.out) ∧ w.cell? ⟨b, j * 9 + 7, none⟩ = some (.int .i64 (at_ j)) ∧ w.cell? ⟨b, j * 9 + 8, none⟩ = some (.int .i64 (4 * x)) ∧ Xs w A o.m ∧ ∀ a, A = some a → a.block < B0 ∧ a.block ≠ b
theorem PvAt.since {w w' : World} {B0 b : Nat} {l : List Op1} {x : Int} {at_ : Nat → Int} (h : PvAt w B0 b l x at_) (hb : Since w w') : PvAt w' B0 b l x at_ := by
  obtain ⟨h1, h2, h3⟩ := h
  refine ⟨Nat.lt_of_lt_of_le h1 hb.size, fun i => by rw [World.frozen?_of_block (a := ⟨b, i, none⟩) (hb.block b h1)]; exact h2 i, fun j o hj => ?_⟩
  obtain ⟨nm, A, c, q0, q1, q2, q3, q4, q5, q6, q7, q8, q9⟩ := h3 j o hj
  have ce : ∀ i, w'.cell? ⟨b, i, none⟩ = w.cell? ⟨b, i, none⟩ := fun i => hb.cell (p := ⟨b, i, none⟩) h1
  exact ⟨nm, A, c, (ce _).trans q0, (ce _).trans q1, (ce _).trans q2, (ce _).trans q3, (ce _).trans q4, (ce _).trans q5, (ce _).trans q6, (ce _).trans q7, (ce _).trans q8, q9.1.below hb, q9.2⟩
set_option maxHeartbeats 1600000 in
theorem clo127 (v0 v1 v2 v4 v5 v6 v7 v8 : Value) (s : ByteArray) (q vb k : Nat) (W : World) (b2 off2 m c : Nat) (hq : W.cell? ⟨q, 0, none⟩ = some (.pointer (some ⟨vb, k * 9, none⟩))) (hc : W.cell? ⟨vb, k * 9 + 2, none⟩ = some (.slice (some ⟨b2, off2, none⟩) m c)) (h0 : W.cell? ⟨b2, off2, none⟩ = some (.string ⟨#[120]⟩)) (hm : 0 < m) (hs : (s.toList == [120]) = false) :
    Calls Tryz.prog 127 #[.agg #[v0, v1, v2, .string s, v4, v5, v6, v7, v8], .pointer (some ⟨q, 0, none⟩)] W fun e W' => e = .returned (.bool false) ∧ Since W W' := by
  have n1 := World.block_lt_of_cell? W ⟨vb, k * 9 + 2, none⟩ hc
  have n2 := World.block_lt_of_cell? W ⟨b2, off2, none⟩ h0
  have n3 := World.block_lt_of_cell? W ⟨q, 0, none⟩ hq
  dsimp only at n1 n2 n3
  have hmm : (0 : Int) < (m : Int) := by omega
  go_enter Tryz.func127, Tryz.ntmps127
  go_wp2_with fail
  go_quiet (fail)
  go_wp2_with fail
  go_ret
  exact ⟨rfl, ((Since.refl W).al _).drN _⟩
set_option maxHeartbeats 1600000 in
/-- No value is the one that a node reads. -/
theorem idx126 {B0 : Nat} (c : Nat) (l : List Op1) (hl : FlatL l) (x : Int) (at_ : Nat → Int) (q vb k : Nat) (W : World) (b2 off2 m c2 : Nat) (hv : PvAt W B0 vb l x at_) (hq : W.cell? ⟨q, 0, none⟩ = some (.pointer (some ⟨vb, k * 9, none⟩))) (hc : W.cell? ⟨vb, k * 9 + 2, none⟩ = some (.slice (some ⟨b2, off2, none⟩) m c2)) (h0 : W.cell? ⟨b2, off2, none⟩ = some (.string ⟨#[120]⟩)) (hm : 0 < m) :
    Calls Tryz.prog 126 #[.slice (some ⟨vb, 0, none⟩) l.length c, .func (.func 127) #[] #[.pointer (some ⟨q, 0, none⟩)]] W fun e W' => e = .returned (.int .i64 (-1)) ∧ Since W W' := by
  have hnl : (l.length : Int) ≤ 5 := by have := hl.most; omega
  have HV := Lib.hid hv
  have HC := Lib.hid (And.intro hq (And.intro hc h0))
  clear hv hc h0 hq
  go_enter Tryz.func126, Tryz.ntmps126
  go_wp2_with fail
  go_loopw [8] (fun i wr => ∃ k : Nat, k ≤ l.length ∧ i = .int .i64 k ∧ Since W wr) (fun i _ => l.length - (intOf i).toNat)
  case atStart => exact ⟨0, by omega, rfl, Since.refl _⟩
  case round =>
    obtain ⟨j, hj, rfl, hs⟩ := hrel
    by_cases hlt : j < l.length
    · obtain ⟨hbv, -, hcv⟩ := HV.out.since hs
      obtain ⟨o, ho⟩ : ∃ o, l[j]? = some o := ⟨_, List.getElem?_eq_getElem hlt⟩
      obtain ⟨nm, Ad, cd, q0, q1, q2, q3, q4, q5, q6, q7, q8, q9⟩ := hcv j o ho
      have hC := clo127 (.string o.op) (.string nm) (.slice Ad o.m cd) (.slice none 0 0) (.int .i64 6) (.string o.out) (.int .i64 (at_ j)) (.int .i64 (4 * x)) o.out q vb k wr b2 off2 m c2 ((hs.cell (p := ⟨q, 0, none⟩) (World.block_lt_of_cell? W ⟨q, 0, none⟩ HC.out.1)).trans HC.out.1) ((hs.cell (p := ⟨vb, k * 9 + 2, none⟩) (World.block_lt_of_cell? W ⟨vb, k * 9 + 2, none⟩ HC.out.2.1)).trans HC.out.2.1) ((hs.cell (p := ⟨b2, off2, none⟩) (World.block_lt_of_cell? W ⟨b2, off2, none⟩ HC.out.2.2)).trans HC.out.2.2) hm (out_toList hl (List.mem_of_getElem? ho))
      have HS := Lib.hid hs
      clear hs hcv q9 ho
      go_wp2_with (go_at_call 127; refine hC.mono ?_; rintro e w3 ⟨rfl, hs3⟩)
      go_roundw
      case rel => exact ⟨j + 1, by omega, by go_num, HS.out.trans hs3⟩
      case measure => simp [intOf]; omega
    · obtain rfl : j = l.length := by omega
      have HS := Lib.hid hs
      clear hs
      go_wp2_with fail
      go_ret
      exact ⟨rfl, HS.out⟩
set_option maxHeartbeats 1600000 in
/-- No value takes another one's place. -/
theorem replace_no {B0 : Nat} (p vb cv : Nat) (l : List Op1) (hl : FlatL l) (x : Int) (at_ : Nat → Int) (k : Nat) (hk : k < l.length) (W : World) (h2 : W.cell? ⟨p, 6, none⟩ = some (.slice (some ⟨vb, 0, none⟩) l.length cv)) (hv : PvAt W B0 vb l x at_) :
    Calls Tryz.prog 58 #[.pointer (some ⟨p, 0, none⟩), .int .i64 k] W fun e W' => e = .returned (.bool false) ∧ Since W W' := by
  have n1 := World.block_lt_of_cell? W ⟨p, 6, none⟩ h2
  dsimp only at n1
  have hnl : (l.length : Int) ≤ 5 := by have := hl.most; omega
  have hki : (k : Int) < (l.length : Int) := by omega
  have HV := Lib.hid hv
  have H2 := Lib.hid h2
  clear hv h2
  go_enter Tryz.func58, Tryz.ntmps58
  go_wp2_with fail
  refine newX2 (F := fun W => Code.wp _ _ _ _ W) ?_
  intro w1 h1
  obtain ⟨r0, -⟩ := cells1 (h1.b0 rfl)
  obtain ⟨r1, -⟩ := cells1 (h1.b1 rfl)
  have h2 := (h1.below.cell (p := ⟨p, 6, none⟩) n1).trans H2.out
  have HX := Lib.hid h1
  obtain ⟨o, ho⟩ : ∃ o, l[k]? = some o := ⟨_, List.getElem?_eq_getElem hk⟩
  clear h1
  have z1 := HX.out.size
  simp at z1
  have z2 : W.heap.size + 1 < w1.heap.size := by omega
  have z3 : W.heap.size < w1.heap.size := by omega
  have z4 : p < w1.heap.size := by omega
  go_region
  have hw3 : Since W (w1.alloc (.cells #[.pointer (some ⟨vb, k * 9, none⟩)] 228)).drew := (Since.al (show Since W w1 from HX.out.below) _).dr
  have g3 : (w1.alloc (.cells #[.pointer (some ⟨vb, k * 9, none⟩)] 228)).drew.heap[w1.heap.size]? = some (.cells #[.pointer (some ⟨vb, k * 9, none⟩)] 228 (0, 0)) := heap_alloc_new w1 _
  have h3 := (hw3.cell (p := ⟨p, 6, none⟩) n1).trans H2.out
  have z5 : w1.heap.size < (w1.alloc (.cells #[.pointer (some ⟨vb, k * 9, none⟩)] 228)).drew.heap.size := lt_new _ _
  have r0 := (((Since.refl w1).al (.cells #[.pointer (some ⟨vb, k * 9, none⟩)] 228)).dr.cell (p := ⟨W.heap.size, 0, none⟩) z3).trans r0
  clear r1 h2 z2 z3 z4
  generalize (w1.alloc (.cells #[.pointer (some ⟨vb, k * 9, none⟩)] 228)).drew = w3 at *
  obtain ⟨c0, -⟩ := cells1 g3
  obtain ⟨hbv, -, hcv⟩ := HV.out.since hw3
  obtain ⟨nm, Ad, cd, q0, q1, q2, q3, q4, q5, q6, q7, q8, q9⟩ := hcv k o ho
  obtain ⟨⟨b2, off2, rfl, hb2, hc2⟩, -⟩ := q9
  have hcase := hl.ops o (List.mem_of_getElem? ho)
  have hm0 : 0 < o.m := by have := hcase.cases; omega
  have cx : w3.cell? ⟨b2, off2, none⟩ = some (.string ⟨#[120]⟩) := hc2 0 hm0
  have hC := idx126 cv l hl x at_ w1.heap.size vb k w3 b2 off2 o.m cd (HV.out.since hw3) c0 q2 cx hm0
  have hP := inPlace_any o.op o.m hcase w3
  have HW3 := Lib.hid hw3
  clear hcv hc2 ho hw3 g3
  go_wp2_with (first | (go_at_call 125; refine hP.mono ?_; rintro e w4 ⟨⟨y, rfl⟩, rfl⟩; cases y) | (go_at_call 126; refine hC.mono ?_; rintro e w5 ⟨rfl, hs5⟩))
  · first | (rw [Exit.noGoto_ret]) | skip
    go_ret
    exact ⟨rfl, HW3.out⟩
  · go_quiet (fail)
    go_wp2_with fail
    first | (rw [Exit.noGoto_ret]) | skip
    go_ret
    exact ⟨rfl, (HW3.out.trans hs5).drN _⟩
end Go.Proofs.YtbilddeepnnogaaGreatDoor
end
/- The arena's beginning: all values, none placed yet. -/
section
set_option linter.unusedVariables false
set_option maxRecDepth 100000
namespace Go.Proofs.YtbilddeepnnogaaGreatDoor
open Go.RowKit Go.Shelf

set_option maxHeartbeats 1600000 in
theorem clo123 (s out : ByteArray) (v1 v2 : Value) (b : Nat) (W : World) (y : Bool) (hc : W.cell? ⟨b, 3, none⟩ = some (.string out)) (hs : (s.toList == out.toList) = y) :
    Calls Tryz.prog 123 #[.agg #[.string s, v1, v2], .pointer (some ⟨b, 0, none⟩)] W fun e W' => e = .returned (.bool y) ∧ Since W W' := by
  have n1 := World.block_lt_of_cell? W ⟨b, 3, none⟩ hc
  dsimp only at n1
  go_enter Tryz.func123, Tryz.ntmps123
  go_wp2_with fail
  go_ret
  exact ⟨rfl, (Since.refl W).al _⟩
set_option maxHeartbeats 1600000 in
theorem idx186c (A : Option Addr) (c : Nat) (l : List Op1) (x : Int) (hl : FlatL l) (b : Nat) (W : World) (q : Nat) (o : Op1) (hq : l[q]? = some o) (hv : VlAt W A (l.map (·.out)) x) (hc : W.cell? ⟨b, 3, none⟩ = some (.string o.out)) :
    Calls Tryz.prog 186 #[.slice A l.length c, .func (.func 123) #[] #[.pointer (some ⟨b, 0, none⟩)]] W fun e W' => (∃ j : Nat, e = .returned (.int .i64 j)) ∧ Since W W' := by
  have hnl : (l.length : Int) ≤ 5 := by have := hl.most; omega
  have hql : q < l.length := (List.getElem?_eq_some_iff.1 hq).1
  have HV := Lib.hid hv
  have HC := Lib.hid hc
  have HQ := Lib.hid hq
  clear hv hc hq
  go_enter Tryz.func186, Tryz.ntmps186
  go_wp2_with fail
  go_loopw [8] (fun i wr => ∃ k : Nat, k ≤ q ∧ i = .int .i64 k ∧ Since W wr) (fun i _ => l.length - (intOf i).toNat)
  case atStart => exact ⟨0, by omega, rfl, Since.refl _⟩
  case round =>
    obtain ⟨k, hk, rfl, hs⟩ := hrel
    have hlt : k < l.length := by omega
    obtain ⟨bv, offv, rfl, hbv, hcv⟩ := HV.out.below hs
    obtain ⟨p, hp⟩ : ∃ p, l[k]? = some p := ⟨_, List.getElem?_eq_getElem hlt⟩
    obtain ⟨Ad, cd, q0, q1, q2, q3⟩ := hcv k p.out (by simp [hp])
    have hcw := (hs.cell (p := ⟨b, 3, none⟩) (World.block_lt_of_cell? W ⟨b, 3, none⟩ HC.out)).trans HC.out
    have HS := Lib.hid hs
    by_cases hy : (p.out.toList == o.out.toList) = true
    · have hC := clo123 p.out o.out (.int .i64 6) (.slice Ad 1 cd) b wr true hcw hy
      clear hs hcv q3 hp hy hcw
      go_wp2_with (go_at_call 123; refine hC.mono ?_; rintro e w3 ⟨rfl, hs3⟩)
      first | (rw [Exit.noGoto_ret]) | skip
      go_ret
      exact ⟨⟨k, rfl⟩, HS.out.trans hs3⟩
    · have hne : k ≠ q := by
        rintro rfl
        rw [HQ.out] at hp
        cases hp
        exact hy (by simp)
      have hy' : (p.out.toList == o.out.toList) = false := by simpa using hy
      have hC := clo123 p.out o.out (.int .i64 6) (.slice Ad 1 cd) b wr false hcw hy'
      clear hs hcv q3 hp hy hy' hcw
      go_wp2_with (go_at_call 123; refine hC.mono ?_; rintro e w3 ⟨rfl, hs3⟩)
      go_roundw
      case rel => exact ⟨k + 1, by omega, by go_num, HS.out.trans hs3⟩
      case measure => simp [intOf]; omega
theorem has105c (A : Option Addr) (c : Nat) (l : List Op1) (x : Int) (hl : FlatL l) (b : Nat) (W : World) (q : Nat) (o : Op1) (hq : l[q]? = some o) (hv : VlAt W A (l.map (·.out)) x) (hc : W.cell? ⟨b, 3, none⟩ = some (.string o.out)) :
    Calls Tryz.prog 105 #[.slice A l.length c, .func (.func 123) #[] #[.pointer (some ⟨b, 0, none⟩)]] W fun e W' => e = .returned (.bool true) ∧ Since W W' := by
  have hC := idx186c A c l x hl b W q o hq hv hc
  clear hv hc
  go_enter Tryz.func105, Tryz.ntmps105
  go_wp2_with (go_at_call 186; refine hC.mono ?_; rintro e w3 ⟨⟨j, rfl⟩, hs3⟩; have hj : (0 : Int) ≤ (j : Int) := by omega)
  go_ret
  exact ⟨rfl, hs3⟩
set_option maxHeartbeats 1600000 in
theorem has_other (s : ByteArray) (hs : (s.toList == [120]) = false) (m : Nat) (hm : m = 1 ∨ m = 2) (A : Option Addr) (c : Nat) (w : World) (h : Xs w A m) : Calls Tryz.prog 124 #[.slice A m c, .string s] w fun e w' => e = .returned (.bool false) ∧ w' = w := by
  obtain ⟨b, off, rfl, hb, hc⟩ := h
  have c0 : w.cell? ⟨b, off, none⟩ = some (.string ⟨#[120]⟩) := hc 0 (by omega)
  rcases hm with rfl | rfl
  · clear hc
    go_enter Tryz.func124, Tryz.ntmps124
    go_wp2
    refine wp_loop_rounds 2 ?_
    rw [rounds_succ]
    go_wp2
    rw [rounds_succ]
    go_wp2
    go_ret
    exact ⟨rfl, rfl⟩
  · have c1 := hc 1 (by omega)
    clear hc
    go_enter Tryz.func124, Tryz.ntmps124
    go_wp2
    refine wp_loop_rounds 3 ?_
    rw [rounds_succ]
    go_wp2
    rw [rounds_succ]
    go_wp2
    rw [rounds_succ]
    go_wp2
    go_ret
    exact ⟨rfl, rfl⟩
theorem Tryz.und223 : Tryz.prog.underlying 223 = some (.map 9 28) := by kernel_rfl
theorem zero28 (w : World) : (zeroValue 28).run Tryz.prog w = .ok (.agg #[.string ⟨#[]⟩, .int .i64 0, .slice none 0 0]) w := by kernel_rfl
/-- A map of the values' descriptions, of the first k names. -/
def Known (w : World) (b : Nat) (ns : List ByteArray) (x : Int) (k : Nat) : Prop := ∃ f m, m ≤ k ∧ MapIs w b f m ∧ ∀ (j : Nat) (s : ByteArray), j < k → ns[j]? = some s → ∃ Ad cd, f s = some (.agg #[.string s, .int .i64 6, .slice Ad 1 cd]) ∧ One w Ad x
theorem Known.since {w w' : World} {b : Nat} {ns : List ByteArray} {x : Int} {k : Nat} (h : Known w b ns x k) (hs : Since w w') : Known w' b ns x k := by
  obtain ⟨f, m, h1, h2, h3⟩ := h
  exact ⟨f, m, h1, h2.below hs, fun j s hj hn => by
    obtain ⟨Ad, cd, q1, q2⟩ := h3 j s hj hn
    exact ⟨Ad, cd, q1, q2.below hs⟩⟩
end Go.Proofs.YtbilddeepnnogaaGreatDoor
end
/- Places that stand in their order are left so by the sort. -/
section
set_option linter.unusedVariables false
set_option maxRecDepth 100000
namespace Go.Proofs.YtbilddeepnnogaaGreatDoor
open Go.RowKit Go.Shelf

/-- Places, in a slice of n. -/
def Pl (w : World) (A : Option Addr) (n : Nat) (a : Nat → Int) (len : Int) : Prop := ∀ j, j < n → ∃ b s, A = some ⟨b, 0, none⟩ ∧ w.cell? ⟨b, j * 3, none⟩ = some (.string s) ∧ w.cell? ⟨b, j * 3 + 1, none⟩ = some (.int .i64 (a j)) ∧ w.cell? ⟨b, j * 3 + 2, none⟩ = some (.int .i64 len)
theorem Pl.since {w w' : World} {A : Option Addr} {n : Nat} {a : Nat → Int} {len : Int} (h : Pl w A n a len) (hb : Since w w') : Pl w' A n a len := by
  intro j hj
  obtain ⟨b, s, rfl, q0, q1, q2⟩ := h j hj
  have h1 := World.block_lt_of_cell? w ⟨b, j * 3, none⟩ q0
  have ce : ∀ i, w'.cell? ⟨b, i, none⟩ = w.cell? ⟨b, i, none⟩ := fun i => hb.cell (p := ⟨b, i, none⟩) h1
  exact ⟨b, s, rfl, (ce _).trans q0, (ce _).trans q1, (ce _).trans q2⟩
theorem nan202 (a : Int) (w : World) : Calls Tryz.prog 202 #[.int .i64 a] w fun e w' => e = .returned (.bool false) ∧ w' = w := by
  go_enter Tryz.func202, Tryz.ntmps202
  go_wp2_with fail
  go_ret
  exact ⟨rfl, rfl⟩
theorem cmp133 (a b : Int) (h : b < a) (w : World) : Calls Tryz.prog 133 #[.int .i64 a, .int .i64 b] w fun e w' => e = .returned (.int .i64 1) ∧ w' = w := by
  have hn : ¬ a < b := by omega
  go_enter Tryz.func133, Tryz.ntmps133
  go_wp2_with (go_at_call 202; refine (nan202 _ _).mono ?_; rintro e w' ⟨rfl, rfl⟩)
  first | (rw [Exit.noGoto_ret]) | skip
  go_ret
  exact ⟨rfl, rfl⟩
theorem clo132 (s s' : ByteArray) (a b c d : Int) (h : b < a) (w : World) : Calls Tryz.prog 132 #[.agg #[.string s, .int .i64 a, .int .i64 c], .agg #[.string s', .int .i64 b, .int .i64 d]] w fun e w' => e = .returned (.int .i64 1) ∧ Since w w' := by
  go_enter Tryz.func132, Tryz.ntmps132
  go_wp2_with (go_at_call 133; refine (cmp133 _ _ h _).mono ?_; rintro e w' ⟨rfl, rfl⟩)
  go_ret
  exact ⟨rfl, ((Since.refl w).al _).al _⟩
set_option maxHeartbeats 1600000 in
theorem ins252 (A : Option Addr) (n c : Nat) (a : Nat → Int) (len : Int) (w : World) (h5 : n ≤ 5) (h : Pl w A n a len) (ha : ∀ j, j + 1 < n → a j < a (j + 1)) :
    Calls Tryz.prog 252 #[.slice A n c, .int .i64 0, .int .i64 n, .func (.func 132) #[] #[]] w fun e w' => e = .returned (.tuple #[]) ∧ Since w w' := by
  have H := Lib.hid h
  have hnl : (n : Int) ≤ 5 := by omega
  clear h
  go_enter Tryz.func252, Tryz.ntmps252
  go_wp2_with fail
  go_loopw [8] (fun i wr => ∃ k : Nat, k ≤ n ∧ i = .int .i64 ((k + 1 : Nat) : Int) ∧ Since w wr) (fun i _ => n - (intOf i).toNat)
  case atStart => exact ⟨0, by omega, rfl, Since.refl _⟩
  case round =>
    obtain ⟨k, hk, rfl, hs⟩ := hrel
    by_cases hlt : k + 1 < n
    · obtain ⟨b, s, rfl, q0, q1, q2⟩ := H.out.since hs k (by omega)
      obtain ⟨b', s', e1, q3, q4, q5⟩ := H.out.since hs (k + 1) hlt
      cases e1
      have hC := clo132 s' s _ _ len len (ha k hlt) wr.drew
      have HS := Lib.hid hs
      have e3 : ((k + 1 : Nat) : Int) - 1 = (k : Int) := by omega
      generalize hp : k + 1 = p at *
      have hpi : (p : Int) < n := by omega
      have hp0 : (0 : Int) < p := by omega
      have hp1 : 0 < p := by omega
      have hw : IntKind.i64.wrap (k : Int) = (k : Int) := by rw [IntKind.wrap_i64]; omega
      have hp2 : decide (0 < p) = true := decide_eq_true hp1
      have hki : (k : Int) < n := by omega
      have hp5 : (p : Int) ≤ 5 := by omega
      clear hs
      go_wp2_with fail
      refine wp_loop_rounds 1 ?_
      rw [rounds_succ]
      go_wp2_with fail
      go_still_tail 14, (by kernel_rfl)
      change wpList _ _ _ _ _ wr.drew
      go_wp2_with (go_at_call 132; refine hC.mono ?_; rintro e w5 ⟨rfl, hs5⟩)
      go_roundw
      case rel => exact ⟨p, by omega, by go_num, HS.out.trans ((Since.refl _).dr.trans hs5)⟩
      case measure => simp [intOf]; omega
    · have HS := Lib.hid hs
      have hlt' : ¬ (k : Int) + 1 < n := by omega
      clear hs
      go_wp2_with fail
      go_end0
      exact ⟨rfl, HS.out⟩
theorem len261 (n : Nat) (h : n ≤ 5) (w : World) : Calls Tryz.prog 261 #[.int .u64 n] w fun e w' => (∃ y : Int, e = .returned (.int .i64 y)) ∧ w' = w := by
  rcases (show n = 0 ∨ n = 1 ∨ n = 2 ∨ n = 3 ∨ n = 4 ∨ n = 5 by omega) with rfl | rfl | rfl | rfl | rfl | rfl
  all_goals
    go_enter Tryz.func261, Tryz.ntmps261
    go_wp2_with fail
    go_ret
    exact ⟨⟨_, rfl⟩, rfl⟩
theorem len201 (n : Nat) (h : n ≤ 5) (w : World) : Calls Tryz.prog 201 #[.int .u64 n] w fun e w' => (∃ y : Int, e = .returned (.int .i64 y)) ∧ w' = w := by
  rcases (show n = 0 ∨ n = 1 ∨ n = 2 ∨ n = 3 ∨ n = 4 ∨ n = 5 by omega) with rfl | rfl | rfl | rfl | rfl | rfl
  all_goals
    go_enter Tryz.func201, Tryz.ntmps201
    go_wp2_with (go_at_call 261; refine (len261 _ (by decide) _).mono ?_; rintro e w' ⟨⟨y, rfl⟩, rfl⟩)
    go_ret
    exact ⟨⟨_, rfl⟩, rfl⟩
set_option maxHeartbeats 1600000 in
theorem sort200 (A : Option Addr) (n c : Nat) (a : Nat → Int) (len : Int) (y : Int) (w : World) (h5 : n ≤ 5) (h : Pl w A n a len) (ha : ∀ j, j + 1 < n → a j < a (j + 1)) :
    Calls Tryz.prog 200 #[.slice A n c, .int .i64 0, .int .i64 n, .int .i64 y, .func (.func 132) #[] #[]] w fun e w' => e = .returned (.tuple #[]) ∧ Since w w' := by
  have hC := ins252 A n c a len w h5 h ha
  have hnl : (n : Int) ≤ 5 := by omega
  clear h
  go_enter Tryz.func200, Tryz.ntmps200
  go_wp2_with fail
  refine wp_loop_rounds 1 ?_
  rw [rounds_succ]
  go_wp2_with (go_at_call 252; refine hC.mono ?_; rintro e w5 ⟨rfl, hs5⟩)
  refine bodyPost_ret (results_none rfl _ _ _) rfl ?_
  exact ⟨rfl, hs5⟩
set_option maxHeartbeats 1600000 in
theorem sort131 (A : Option Addr) (n c : Nat) (a : Nat → Int) (len : Int) (w : World) (h5 : n ≤ 5) (h : Pl w A n a len) (ha : ∀ j, j + 1 < n → a j < a (j + 1)) :
    Calls Tryz.prog 131 #[.slice A n c, .func (.func 132) #[] #[]] w fun e w' => e = .returned (.tuple #[]) ∧ Since w w' := by
  have hC := fun y => sort200 A n c a len y w h5 h ha
  have hL := len201 n h5 w
  have hnl : (n : Int) ≤ 5 := by omega
  clear h
  go_enter Tryz.func131, Tryz.ntmps131
  go_wp2_with (first | (go_at_call 201; refine hL.mono ?_; rintro e w' ⟨⟨y, rfl⟩, rfl⟩) | (go_at_call 200; refine (hC _).mono ?_; rintro e w5 ⟨rfl, hs5⟩))
  go_end0
  exact ⟨rfl, hs5⟩
end Go.Proofs.YtbilddeepnnogaaGreatDoor
end
/- The arena: a value is laid behind all those ahead of it. -/
section
set_option linter.unusedVariables false
set_option maxRecDepth 100000
namespace Go.Proofs.YtbilddeepnnogaaGreatDoor
open Go.RowKit Go.Shelf

theorem up8_step (n i : Nat) : up8 (i * up8 n + n) = (i + 1) * up8 n := by
  unfold up8
  generalize hq : (n + 7) / 8 = q
  rw [show i * (q * 8) = (i * q) * 8 by rw [Nat.mul_assoc], show (i + 1) * (q * 8) = (i * q) * 8 + q * 8 by rw [Nat.add_mul, Nat.one_mul, Nat.mul_assoc]]
  generalize i * q = r
  omega
theorem up8_le {n : Nat} (h : n ≤ 120) : up8 n ≤ 120 := by unfold up8; omega
theorem up8_ge (n : Nat) : n ≤ up8 n := by unfold up8; omega
/-- The k-th one is laid. -/
def laidAt (at_ : Nat → Int) (k : Nat) (v : Int) : Nat → Int := fun j => if j = k then v else at_ j
theorem PvAt.put {w : World} {B0 b : Nat} {l : List Op1} {x : Int} {at_ : Nat → Int} (h : PvAt w B0 b l x at_) (k : Nat) (v : Int) : PvAt (w.setCell ⟨b, k * 9 + 7, none⟩ (.int .i64 v)) B0 b l x (laidAt at_ k v) := by
  obtain ⟨h1, h2, h3⟩ := h
  refine ⟨by simpa [World.setCell] using h1, fun i => by rw [World.frozen?_setCell]; exact h2 i, fun j o hj => ?_⟩
  obtain ⟨nm, A, c, q0, q1, q2, q3, q4, q5, q6, q7, q8, q9⟩ := h3 j o hj
  have near : ∀ i, i ≠ k * 9 + 7 → (w.setCell ⟨b, k * 9 + 7, none⟩ (.int .i64 v)).cell? ⟨b, i, none⟩ = w.cell? ⟨b, i, none⟩ := fun i hi => World.cell?_setCell_other _ _ _ _ (fun e => hi (by injection e with _ e2 _; exact e2.symm))
  have hx : Xs (w.setCell ⟨b, k * 9 + 7, none⟩ (.int .i64 v)) A o.m ∧ ∀ a, A = some a → a.block < B0 ∧ a.block ≠ b := by
    obtain ⟨⟨b2, off2, rfl, hb2, hc2⟩, hn⟩ := q9
    have hne : b2 ≠ b := (hn _ rfl).2
    exact ⟨⟨b2, off2, rfl, by simpa [World.setCell] using hb2, fun j hj => (World.cell?_of_block (a := ⟨b2, off2 + j, none⟩) (Below.heap_setCell _ _ _ _ hne)).trans (hc2 j hj)⟩, hn⟩
  refine ⟨nm, A, c, (near _ (by omega)).trans q0, (near _ (by omega)).trans q1, (near _ (by omega)).trans q2, (near _ (by omega)).trans q3, (near _ (by omega)).trans q4, (near _ (by omega)).trans q5, (near _ (by omega)).trans q6, ?_, (near _ (by omega)).trans q8, hx⟩
  by_cases e : j = k
  · subst e
    rw [show laidAt at_ j v j = v by simp [laidAt]]
    exact World.cell?_setCell_same' _ _ _ (by rw [q7]; rfl)
  · rw [show laidAt at_ k v j = at_ j by simp [laidAt, e]]
    exact (near _ (by omega)).trans q7
theorem Tryz.info138 : (Tryz.prog.info? 138).map (fun i => (i.zero, i.size, i.bytes)) = some (some (.agg #[.string ⟨#[]⟩, .int .i64 0, .int .i64 0]), 3, 32) := by kernel_rfl
theorem pl_of {w : World} {B : Nat} {Z : Nat → Prop} {v : Value} {rs : List (List Value)} {a : Nat → Int} {len : Int} (h : OwnL (repRaw 3) 138 w B Z v rs) (hr : ∀ q r, rs[q]? = some r → ∃ s : ByteArray, r = ([.string s, .int .i64 (a q), .int .i64 len] : List Value)) : ∃ A c, v = .slice A rs.length c ∧ Pl w A rs.length a len := by
  rcases Nat.eq_zero_or_pos rs.length with h0 | h0
  · obtain ⟨A, c, e⟩ := h.form
    exact ⟨A, c, e, fun j hj => by omega⟩
  · obtain ⟨b, c, e, -, -, hc⟩ := h.raw (by decide) h0
    refine ⟨_, c, e, fun j hj => ?_⟩
    obtain ⟨s, hs⟩ := hr j _ (List.getElem?_eq_getElem hj)
    have q := hc j _ (List.getElem?_eq_getElem hj)
    have q0 := q 0 (by decide)
    have q1 := q 1 (by decide)
    have q2 := q 2 (by decide)
    rw [hs] at q0 q1 q2
    exact ⟨b, s, rfl, q0, q1, q2⟩
set_option maxHeartbeats 1600000 in
theorem lay_any {B0 : Nat} (p vb cv bo co : Nat) (l : List Op1) (hl : FlatL l) (x : Nat) (hx : x ≤ 30) (hx1 : 1 ≤ x) (at_ : Nat → Int) (k : Nat) (hk : k < l.length) (W : World) (h6 : W.cell? ⟨p, 6, none⟩ = some (.slice (some ⟨vb, 0, none⟩) l.length cv)) (h8 : W.cell? ⟨p, 8, none⟩ = some (.slice (some ⟨bo, 0, none⟩) l.length co)) (ho : ∀ j, j < l.length → W.cell? ⟨bo, j, none⟩ = some (.bool true)) (hv : PvAt W B0 vb l x at_) (ha : ∀ j, j < k → at_ j = (j * up8 (4 * x) : Nat)) :
    Calls Tryz.prog 59 #[.pointer (some ⟨p, 0, none⟩), .int .i64 k] W fun e W' => e = .returned (.tuple #[]) ∧ PvAt W' B0 vb l x (laidAt at_ k (k * up8 (4 * x) : Nat)) ∧ Only vb W W' := by
  have n1 := World.block_lt_of_cell? W ⟨p, 6, none⟩ h6
  dsimp only at n1
  have hnl : (l.length : Int) ≤ 5 := by have := hl.most; omega
  have hn5 := hl.most
  have hki : (k : Int) < (l.length : Int) := by omega
  have HV := Lib.hid hv
  have H68 := Lib.hid (And.intro h6 h8)
  have HO := Lib.hid ho
  have nvb := hv.1
  clear hv h8 ho
  go_enter Tryz.func59, Tryz.ntmps59
  go_wp2_with fail
  obtain ⟨i138, hi138⟩ : ∃ i, Tryz.prog.info? 138 = some i ∧ i.zero = some (.agg #[.string ⟨#[]⟩, .int .i64 0, .int .i64 0]) ∧ i.size = 3 ∧ i.bytes = 32 := by
    obtain ⟨i, h1, h2, h3, h4⟩ := info_parts Tryz.info138
    exact ⟨i, h1, h2, h3, h4⟩
  have HI := Lib.hid hi138
  clear hi138
  go_loopw [5, 19] (fun v i wr => ∃ j : Nat, j ≤ k ∧ i = .int .i64 j ∧ Since W wr ∧ ∃ rs : List (List Value), rs.length = j ∧ (∀ q r, rs[q]? = some r → ∃ s : ByteArray, r = ([.string s, .int .i64 (q * up8 (4 * x) : Nat), .int .i64 (4 * (x : Int))] : List Value)) ∧ OwnL (repRaw 3) 138 wr W.heap.size (fun _ => False) v rs) (fun _ i _ => k - (intOf i).toNat)
  case atStart => exact ⟨0, by omega, rfl, Since.refl _, [], rfl, fun q r h => by simp at h, ownL_nil⟩
  case round =>
    obtain ⟨j, hj, rfl, hs, rs, hrl, hrs, hown⟩ := hrel
    by_cases hlt : j < k
    · have hjl : j < l.length := by omega
      obtain ⟨o, hoj⟩ : ∃ o, l[j]? = some o := ⟨_, List.getElem?_eq_getElem hjl⟩
      have hD := done_no p bo co l.length j k wr hn5 hjl ((hs.cell (p := ⟨p, 8, none⟩) n1).trans H68.out.2) ((hs.cell (p := ⟨bo, j, none⟩) (World.block_lt_of_cell? W ⟨bo, j, none⟩ (HO.out j hjl))).trans (HO.out j hjl))
      obtain ⟨Av, cv', hv'⟩ := hown.form
      rw [hrl] at hv'
      subst hv'
      have HS := Lib.hid hs
      have HOWN := Lib.hid hown
      have HJ := Lib.hid hoj
      have HRS := Lib.hid hrs
      have HAJ := Lib.hid (ha j hlt)
      have hji : (j : Int) < k := by omega
      clear hs hown hoj hrs
      go_wp2_with (first | (go_at_call 130; refine hD.mono ?_; rintro e w3 ⟨rfl, hs3⟩; have hw3 := HS.out.trans hs3; have h63 := (hw3.cell (p := ⟨p, 6, none⟩) n1).trans H68.out.1; obtain ⟨-, -, hcv⟩ := HV.out.since hw3; obtain ⟨nm, A', c', -, -, -, -, -, -, q6, q7, q8, -⟩ := hcv j _ HJ.out; clear hcv; rw [HAJ.out] at q7; generalize hm : j * up8 (4 * x) = m at q7; have HOW := Lib.hid (HOWN.out.keep (fun i hi => hs3.block i (HOWN.out.lt i hi).2) (fun _ h => h.elim) (fun _ h => h)); have HW3 := Lib.hid hw3; have HS3 := Lib.hid hs3; clear hw3 hs3) | (at_builtin; refine wpList_append_f w3 (repRaw 3) (flatRaw 3) [.string o.out, .int .i64 m, .int .i64 (4 * (x : Int))] [.string o.out, .int .i64 m, .int .i64 (4 * (x : Int))] rfl (.tmp 27) (.tmp 36) 50 rfl 138 i138 _ 32 Tryz.underlying50 HI.out.1 HI.out.2.1 HI.out.2.2.1 HI.out.2.2.2 rfl (by decide) (by decide) W.heap.size _ _ rfl HOW.out ⟨rfl, rfl, by simp [Value.oneCell']⟩ w3.heap.size rfl rfl (by omega) HW3.out.size ?_; intro v' w7 ho7 hb7))
      have hs7 : Since W w7 := Below.trans HW3.out hb7
      go_wp2_with fail
      go_roundw
      case rel =>
        refine ⟨j + 1, by omega, by go_num, hs7, _, by rw [List.length_append, hrl]; rfl, fun q r hq => ?_, ho7⟩
        rcases Nat.lt_or_ge q rs.length with h1 | h1
        · rw [List.getElem?_append_left h1] at hq
          exact HRS.out q r hq
        · rw [List.getElem?_append_right h1] at hq
          have h2 : q - rs.length = 0 := by
            rcases Nat.eq_zero_or_pos (q - rs.length) with h2 | h2
            · exact h2
            · rw [List.getElem?_eq_none (by simp; omega)] at hq
              cases hq
          rw [h2] at hq
          cases hq
          exact ⟨o.out, by rw [show q = j by omega, hm]⟩
      case measure => simp [intOf]; omega
    · obtain rfl : j = k := by omega
      obtain ⟨Av, cv', hv', hpl⟩ := pl_of (a := fun q => (q * up8 (4 * x) : Nat)) hown hrs
      rw [hrl] at hv' hpl
      subst hv'
      have hC := sort131 Av j cv' _ _ wr (by omega) hpl (fun q hq => by have : 0 < up8 (4 * x) := by have := up8_ge (4 * x); omega
                                                                        have e : (q + 1) * up8 (4 * x) = q * up8 (4 * x) + up8 (4 * x) := by rw [Nat.add_mul, Nat.one_mul]
                                                                        show ((q * up8 (4 * x) : Nat) : Int) < ((q + 1) * up8 (4 * x) : Nat)
                                                                        omega)
      have HS := Lib.hid hs
      have HPL := Lib.hid hpl
      clear hs hown hrs hpl
      go_wp2_with (go_at_call 131; refine hC.mono ?_; rintro e w4 ⟨rfl, hs4⟩)
      have HS4 := Lib.hid (HS.out.trans hs4)
      have HP4 := Lib.hid (HPL.out.since hs4)
      clear hs4 hC
      refine newX (F := fun W => Code.wp _ _ _ _ W) ?_
      intro w5 h5
      have HX5 := Lib.hid h5
      clear h5
      go_loopw [7, 44] (fun v i wy => ∃ q : Nat, q ≤ j ∧ i = .int .i64 q ∧ v = .int .i64 (q * up8 (4 * x) : Nat) ∧ Fx w4 wy [some (.cells #[.int .i64 (-1), .int .i64 0] 238)]) (fun _ i _ => j - (intOf i).toNat)
      case atStart => exact ⟨0, by omega, rfl, by rw [Nat.zero_mul]; rfl, HX5.out⟩
      case round =>
        obtain ⟨q, hq, rfl, rfl, hy⟩ := hrel
        have hsy : Since w4 wr := hy.below
        have hWy : Since W wr := HS4.out.trans hsy
        obtain ⟨o, hoj⟩ : ∃ o, l[j]? = some o := ⟨_, List.getElem?_eq_getElem hk⟩
        obtain ⟨-, hfz, hcv⟩ := HV.out.since hWy
        obtain ⟨nm, A', c', -, -, -, -, -, -, -, q7, q8, -⟩ := hcv j o hoj
        obtain ⟨g0, g1, gf0, gf1⟩ := cells2 (hy.b0 rfl)
        have n4 : w4.heap.size < wr.heap.size := hy.size
        have nv4 : vb < w4.heap.size := Nat.lt_of_lt_of_le nvb HS4.out.size
        have hx4 : ¬ 4 * (x : Int) ≤ 0 := by omega
        have HY := Lib.hid hy
        have HWY := Lib.hid hWy
        have hf7 := hfz (j * 9 + 7)
        clear hcv hoj hfz hy hWy
        by_cases hqj : q < j
        · obtain ⟨b, s, rfl, c0, c1, c2⟩ := HP4.out.since hsy q hqj
          have hu : q * up8 (4 * x) ≤ 4 * 120 := Nat.mul_le_mul (by omega) (up8_le (by omega))
          have hst := up8_step (4 * x) q
          generalize hm2 : (q + 1) * up8 (4 * x) = m2 at hst
          have hle : q * up8 (4 * x) ≤ m2 := by rw [← hm2]; exact Nat.mul_le_mul_right _ (by omega)
          generalize hm : q * up8 (4 * x) = m at *
          have hU : ∀ w, Calls Tryz.prog 60 #[.int .i64 ((m : Int) + 4 * (x : Int))] w fun e w' => e = .returned (.int .i64 (m2 : Int)) ∧ w' = w := fun w => by
            have h := up_any (m + 4 * x) (by omega) w
            rw [hst] at h
            rw [show ((m : Int) + 4 * (x : Int)) = ((m + 4 * x : Nat) : Int) by omega]
            exact h
          have hmx : max (m : Int) (m2 : Int) = (m2 : Int) := by omega
          have hqi : (q : Int) < j := by omega
          have hmm : (m : Int) ≤ 480 := by omega
          have q8' : wr.cell? ⟨vb, j * 9 + 6 + 2, none⟩ = some (.int .i64 (4 * (x : Int))) := q8
          have nvr : vb < wr.heap.size := by omega
          clear hsy
          go_wp2_with (go_at_call 60; refine (hU _).mono ?_; rintro e w7 ⟨rfl, rfl⟩)
          go_roundw
          case rel => exact ⟨q + 1, by omega, by go_num, by rw [hm2], HY.out.new _⟩
          case measure => simp [intOf]; omega
        · obtain rfl : q = j := by omega
          clear hsy
          go_wp2_with fail
          go_end0
          refine ⟨rfl, ?_⟩
          have e : ((q * up8 (4 * x) : Nat) : Int) = (q : Int) * (up8 (4 * x) : Int) := Int.natCast_mul _ _
          rw [← e]
          have hs1 : Since W (wr.setCell ⟨w4.heap.size, 0, none⟩ (.int .i64 (q * up8 (4 * x) : Nat))) := HWY.out.set HS4.out.size _
          exact ⟨(HV.out.since hs1).put q _, (only_of_since vb hs1).set_ (q * 9 + 7) _⟩
end Go.Proofs.YtbilddeepnnogaaGreatDoor
end
