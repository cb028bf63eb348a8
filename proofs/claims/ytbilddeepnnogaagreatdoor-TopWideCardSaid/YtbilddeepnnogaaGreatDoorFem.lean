import Derived.Test.YtbilddeepnnogaaGreatDoorFd
import Derived.Deep.LoopGhost
import Derived.Test.YtbilddeepnnogaaGreatDoorIam
set_option linter.unusedVariables false
set_option linter.unusedSimpArgs false
/- Passes: what can be done ahead (nothing, where no value is known). -/
section
set_option linter.unusedVariables false
set_option maxRecDepth 100000
namespace Go.Proofs.YtbilddeepnnogaaGreatDoor
open Go.RowKit Go.Shelf

theorem exists_list {α : Type} {P : Nat → α → Prop} : ∀ n : Nat, (∀ j, j < n → ∃ x, P j x) → ∃ l : List α, l.length = n ∧ ∀ (j : Nat) (x : α), l[j]? = some x → P j x := by
  intro n
  induction n with
  | zero => intro _; exact ⟨[], rfl, fun j x h => by simp at h⟩
  | succ n ih =>
    intro h
    obtain ⟨l, hl, hp⟩ := ih (fun j hj => h j (by omega))
    obtain ⟨x, hx⟩ := h n (by omega)
    refine ⟨l ++ [x], by simp [hl], fun j y hj => ?_⟩
    rcases Nat.lt_or_ge j l.length with h1 | h1
    · rw [List.getElem?_append_left h1] at hj
      exact hp j y hj
    · rw [List.getElem?_append_right h1] at hj
      have : j - l.length = 0 := by
        rcases Nat.eq_zero_or_pos (j - l.length) with h2 | h2
        · exact h2
        · rw [List.getElem?_eq_none (by simp; omega)] at hj
          cases hj
      rw [this] at hj
      simp at hj
      subst hj
      rw [show j = n by omega]
      exact hx
/-- The cells of a list of nodes. -/
structure NdRaw (w : World) (A : Option Addr) (l : List Op1) (rows : List (List Value)) : Prop where
  len : rows.length = l.length
  at_ : ∃ b off, A = some ⟨b, off, none⟩ ∧ b < w.heap.size ∧ ∀ (j : Nat) (r : List Value), rows[j]? = some r → ∃ o nm A' c, l[j]? = some o ∧ r = [.string o.op, .string nm, .slice A' o.m c, .string o.out, .slice none 0 0] ∧ Xs w A' o.m ∧ ∀ i, i < 5 → w.cell? ⟨b, off + j * 5 + i, none⟩ = r[i]?
theorem NdAt.raw {w : World} {A : Option Addr} {l : List Op1} (h : NdAt w A l) : ∃ rows, NdRaw w A l rows := by
  obtain ⟨b, off, rfl, hb, hc⟩ := h
  obtain ⟨rows, hl, hr⟩ := exists_list (P := fun j r => ∃ o nm A' c, l[j]? = some o ∧ r = [.string o.op, .string nm, .slice A' o.m c, .string o.out, .slice none 0 0] ∧ Xs w A' o.m ∧ ∀ i, i < 5 → w.cell? ⟨b, off + j * 5 + i, none⟩ = r[i]?) l.length (fun j hj => by
    obtain ⟨nm, A', c, q0, q1, q2, q3, q4, q5⟩ := hc j _ (List.getElem?_eq_getElem hj)
    refine ⟨_, l[j], nm, A', c, List.getElem?_eq_getElem hj, rfl, q5, fun i hi => ?_⟩
    rcases (show i = 0 ∨ i = 1 ∨ i = 2 ∨ i = 3 ∨ i = 4 by omega) with rfl | rfl | rfl | rfl | rfl
    · exact q0
    · exact q1
    · exact q2
    · exact q3
    · exact q4)
  exact ⟨rows, hl, b, off, rfl, hb, hr⟩
theorem NdRaw.since {w w' : World} {A : Option Addr} {l : List Op1} {rows : List (List Value)} (h : NdRaw w A l rows) (hb : Since w w') : NdRaw w' A l rows := by
  obtain ⟨hl, b, off, rfl, h1, h2⟩ := h
  refine ⟨hl, b, off, rfl, Nat.lt_of_lt_of_le h1 hb.size, fun j r hj => ?_⟩
  obtain ⟨o, nm, A', c, e1, e2, q5, q⟩ := h2 j r hj
  exact ⟨o, nm, A', c, e1, e2, q5.below hb, fun i hi => (hb.cell (p := ⟨b, _, none⟩) h1).trans (q i hi)⟩
/-- A list of the same cells is a list of the same nodes. -/
theorem NdRaw.again {w wf : World} {A : Option Addr} {l : List Op1} {rows : List (List Value)} (h : NdRaw w A l rows) (hx : ∀ A m, Xs w A m → Xs wf A m) {B : Nat} {Z : Nat → Prop} {v : Value} (ho : OwnL (repRaw 5) 37 wf B Z v rows) (hl : 0 < l.length) : ∃ A' c, v = .slice A' l.length c ∧ NdAt wf A' l := by
  obtain ⟨b, c, e, h1, h2, h3⟩ := ho.raw (by decide) (by rw [h.len]; exact hl)
  rw [h.len] at e
  refine ⟨_, c, e, b, 0, rfl, h2, fun j o hj => ?_⟩
  obtain ⟨b0, off, -, -, hr⟩ := h.at_
  have hj' : j < rows.length := by rw [h.len]; exact (List.getElem?_eq_some_iff.1 hj).1
  obtain ⟨o', nm, A', c', e1, e2, q5, -⟩ := hr j _ (List.getElem?_eq_getElem hj')
  rw [hj] at e1
  cases e1
  have ce := h3 j _ (List.getElem?_eq_getElem hj')
  rw [e2] at ce
  exact ⟨nm, A', c', by simpa using ce 0 (by omega), by simpa using ce 1 (by omega), by simpa using ce 2 (by omega), by simpa using ce 3 (by omega), by simpa using ce 4 (by omega), hx _ _ q5⟩
theorem ne_of_val {w : World} {g : Nat} {cs : Array Value} {t : TypeId} {fr : Nat × Nat} (h : w.heap[g]? = some (.cells cs t fr)) {u : Value} (hn : u ∉ cs) {b o : Nat} (hc : w.cell? ⟨b, o, none⟩ = some u) : b ≠ g := by
  rintro rfl
  rw [cell_of_row w b o cs t fr h] at hc
  exact hn (Array.mem_of_getElem? hc)
theorem NdOp.ne {o : ByteArray} {m : Nat} (h : NdOp o m) : o ≠ ⟨#[]⟩ := by
  rintro rfl
  rcases h with ⟨h | h | h, _⟩ | ⟨h, _⟩
  all_goals exact absurd h (by decide)
theorem Xs.keep {w w' : World} {A : Option Addr} {m : Nat} (h : Xs w A m) (hk : ∀ b o, w.cell? ⟨b, o, none⟩ = some (.string ⟨#[120]⟩) → w'.heap[b]? = w.heap[b]?) (hs : w.heap.size ≤ w'.heap.size) (hm : 0 < m) : Xs w' A m := by
  obtain ⟨b, off, rfl, h1, h2⟩ := h
  exact ⟨b, off, rfl, Nat.lt_of_lt_of_le h1 hs, fun j hj => (World.cell?_of_block (a := ⟨b, off + j, none⟩) (hk b _ (h2 j hj))).trans (h2 j hj)⟩
/-- A graph stays while a graph's block turns that was empty. -/
theorem FlatG.zrow {w w' : World} {An Ai Ao : Option Addr} {l : List Op1} {x : Int} (h : FlatG w An Ai Ao l x) {g : Nat} {t : TypeId} {fr : Nat × Nat} (hg : w.heap[g]? = some (.cells #[.string ⟨#[]⟩, .slice none 0 0, .slice none 0 0, .slice none 0 0, .slice none 0 0] t fr)) (hk : ∀ k, k ≠ g → w'.heap[k]? = w.heap[k]?) (hs : w.heap.size ≤ w'.heap.size) (hgl : Gl w') : FlatG w' An Ai Ao l x := by
  refine ⟨h.ok, hgl, h.lo, h.hi, ?_, h.ins.noint hg (by simp) (fun k _ hn => hk k hn) hs, h.outs.noint hg (by simp) (fun k _ hn => hk k hn) hs⟩
  obtain ⟨b, off, rfl, h1, h2⟩ := h.nodes
  have ne : ∀ {b o : Nat} {s : ByteArray}, s ≠ ⟨#[]⟩ → w.cell? ⟨b, o, none⟩ = some (.string s) → w'.heap[b]? = w.heap[b]? := fun hs hc => hk _ (ne_of_val hg (by simp; exact hs) hc)
  refine ⟨b, off, rfl, Nat.lt_of_lt_of_le h1 hs, fun j o hj => ?_⟩
  obtain ⟨nm, A', c, q0, q1, q2, q3, q4, q5⟩ := h2 j o hj
  have hop := h.ok.ops o (List.mem_of_getElem? hj)
  have hb := ne hop.ne q0
  have ce : ∀ o, w'.cell? ⟨b, o, none⟩ = w.cell? ⟨b, o, none⟩ := fun o => World.cell?_of_block (a := ⟨b, o, none⟩) hb
  exact ⟨nm, A', c, (ce _).trans q0, (ce _).trans q1, (ce _).trans q2, (ce _).trans q3, (ce _).trans q4, q5.keep (fun b o hc => ne (by decide) hc) hs (by have := hop.cases; omega)⟩
theorem Tryz.und154 : Tryz.prog.underlying 154 = some (.map 9 44) := by kernel_rfl
theorem zero44 (w : World) : (zeroValue 44).run Tryz.prog w = .ok (.agg #[.int .i64 0, .slice none 0 0, .slice none 0 0]) w := by kernel_rfl
/-- A graph in block w2.size whose nodes come again; behind it an empty map. -/
structure FoSt (w2 wr : World) (gn : ByteArray) (Ai Ao : Option Addr) (ci co n : Nat) (rows : List (List Value)) (k : Nat) : Prop where
  since : Since w2 wr
  map : wr.heap[w2.heap.size + 1]? = some (.map #[] 0)
  row : ∃ v, wr.heap[w2.heap.size]? = some (.cells #[.string gn, v, .slice Ai 1 ci, .slice Ao n co, .slice none 0 0] 33 (0, 0)) ∧ OwnL (repRaw 5) 37 wr (w2.heap.size + 2) (fun _ => False) v (rows.take k)
  size : w2.heap.size + 2 ≤ wr.heap.size
theorem FoSt.later {w2 wr w' : World} {gn : ByteArray} {Ai Ao : Option Addr} {ci co n : Nat} {rows : List (List Value)} {k : Nat} (h : FoSt w2 wr gn Ai Ao ci co n rows k) (hb : Since wr w') : FoSt w2 w' gn Ai Ao ci co n rows k := by
  obtain ⟨h1, h2, ⟨v, h3, h4⟩, h5⟩ := h
  exact ⟨h1.trans hb, hb.kp h2, ⟨v, hb.kp h3, h4.keep (fun j hj => hb.block j (h4.lt j hj).2) (fun _ h => h.elim) (fun _ h => h)⟩, Nat.le_trans h5 hb.size⟩
theorem FoSt.come {w2 wr w7 : World} {gn : ByteArray} {Ai Ao : Option Addr} {ci co n : Nat} {rows : List (List Value)} {k : Nat} {r : List Value} {v v' : Value} (h : FoSt w2 wr gn Ai Ao ci co n rows k) (hr : rows[k]? = some r) (ho : OwnL (repRaw 5) 37 w7 (w2.heap.size + 2) (fun _ => False) v' (rows.take k ++ [r])) (hb : Below (w2.heap.size + 2) wr w7) (hg : w7.heap[w2.heap.size]? = some (.cells #[.string gn, v, .slice Ai 1 ci, .slice Ao n co, .slice none 0 0] 33 (0, 0))) :
    FoSt w2 (w7.setCell ⟨w2.heap.size, 1, none⟩ v') gn Ai Ao ci co n rows (k + 1) := by
  refine ⟨Below.setCell (Below.trans h.since (hb.mono (by omega))) (Nat.le_refl _) _, ?_, ⟨v', heap_setCell_same _ _ 1 _ _ v' hg, ?_⟩, ?_⟩
  · exact (Below.heap_setCell _ _ _ _ (by show w2.heap.size + 1 ≠ w2.heap.size; omega)).trans ((hb.block _ (by omega)).trans h.map)
  · rw [List.take_add_one, hr]
    exact ho.keep (fun j hj => Below.heap_setCell _ _ _ _ (by have := (ho.lt j hj).1; show j ≠ w2.heap.size; omega)) (fun _ h => h.elim) (fun _ h => h)
  · have := h.size
    have := hb.size
    simp [World.setCell]; omega
/-- What a pass leaves: a graph alike. -/
def PassIs (gn : ByteArray) (l : List Op1) (x : Int) (w : World) (e : Ending) (w' : World) : Prop := ∃ An Ai Ao cn ci co, e = .returned (.tuple #[.agg #[.string gn, .slice An l.length cn, .slice Ai 1 ci, .slice Ao l.length co, .slice none 0 0], .int .i64 0]) ∧ FlatG w' An Ai Ao l x ∧ Below w.heap.size w w'
set_option maxHeartbeats 6400000 in
theorem fold_any (gn : ByteArray) (An Ai Ao : Option Addr) (cn ci co : Nat) (l : List Op1) (x : Int) (w : World) (h : FlatG w An Ai Ao l x) :
    Calls Tryz.prog 52 #[.agg #[.string gn, .slice An l.length cn, .slice Ai 1 ci, .slice Ao l.length co, .slice none 0 0]] w (PassIs gn l x w) := by
  have H := Lib.hid h
  have H5 := h.ok.most
  have H0 := h.ok.pos
  have hnl : (l.length : Int) ≤ 5 := by omega
  have hmm := @run_makeMap Tryz.prog
  clear h
  go_enter Tryz.func52, Tryz.ntmps52
  go_wp2_with fail
  refine newX2 (F := fun W => Code.wp _ _ _ _ W) ?_
  intro w1 h1
  obtain ⟨r0, r1, r2, r3, r4, -⟩ := cells5 (h1.b0 rfl)
  go_step3
  go_wp2_with fail
  refine (fsorted_any gn An Ai Ao cn ci co l x w1 (H.out.below h1.below)).mono ?_
  rintro e w2 ⟨An', Ai', Ao', cn', ci', co', A, c, rfl, hf, -, hb⟩
  have h2 := h1.all hb
  clear hb h1
  have HF := Lib.hid hf
  have HX := Lib.hid h2
  clear hf h2 r0 r1 r2 r3 r4
  go_wp2_with fail
  have h3 := fx2 w2 (.cells #[.string gn, .slice An' l.length cn', .slice Ai' 1 ci', .slice Ao' l.length co', .slice none 0 0] 33) (.map #[] 0)
  obtain ⟨r0, r1, r2, r3, r4, f0, f1, -⟩ := cells5 (h3.b0 rfl)
  have H3 := Lib.hid h3
  obtain ⟨rows, hrows⟩ := HF.out.nodes.raw
  have HR := Lib.hid hrows
  clear h3 hrows
  generalize (w2.alloc (.cells #[.string gn, .slice An' l.length cn', .slice Ai' 1 ci', .slice Ao' l.length co', .slice none 0 0] 33)).alloc (.map #[] 0) = w3 at H3 r0 r1 r2 r3 r4 f0 f1 ⊢
  refine wp_loop_rounds 1 ?_
  rw [rounds_succ]
  go_wp2_with fail
  have HS0 : Hid (FoSt w2 (w3.setCell ⟨w2.heap.size, 1, none⟩ (.slice none 0 0)) gn Ai' Ao' ci' co' l.length rows 0) := Lib.hid ⟨Below.setCell H3.out.below (Nat.le_refl _) _, (Below.heap_setCell _ _ _ _ (by show w2.heap.size + 1 ≠ w2.heap.size; omega)).trans (H3.out.b1 rfl), ⟨_, heap_setCell_same _ _ 1 _ _ _ (H3.out.b0 rfl), ownL_nil⟩, by have := H3.out.size; simpa [World.setCell] using this⟩
  clear r0 r1 r2 r3 r4 f0 f1
  obtain ⟨i37, hi37⟩ : ∃ i, Tryz.prog.info? 37 = some i ∧ i.zero = some (.agg #[.string ⟨#[]⟩, .string ⟨#[]⟩, .slice none 0 0, .string ⟨#[]⟩, .slice none 0 0]) ∧ i.size = 5 ∧ i.bytes = 96 := by
    obtain ⟨i, h1, h2, h3, h4⟩ := info_parts Tryz.info37
    exact ⟨i, h1, h2, h3, h4⟩
  have HI := Lib.hid hi37
  have HL := Lib.hid HR.out.len
  clear hi37
  go_step3
  go_wp2_with fail
  go_loopg [49] l.length (fun g i wr => ∃ k : Nat, k + g = l.length ∧ i = .int .i64 k ∧ FoSt w2 wr gn Ai' Ao' ci' co' l.length rows k)
  case atStart => exact ⟨0, by omega, rfl, HS0.out⟩
  case round =>
    obtain ⟨k, hkg, rfl, hs⟩ := hrel
    cases gk with
    | zero =>
      obtain rfl : k = l.length := by omega
      obtain ⟨v, hrow, hown⟩ := hs.row
      rw [← HL.out, List.take_length] at hown
      obtain ⟨A3, c3, rfl, hnd⟩ := HR.out.again (fun A m h => h.below hs.since) hown H0
      obtain ⟨s0, s1, s2, s3, s4, -⟩ := cells5 hrow
      have g1 := hs.since.kp (HX.out.b1 rfl)
      obtain ⟨y0, y1, y2, y3, y4, f0, f1, f2, f3, f4⟩ := cells5 g1
      have HFl : Hid (FlatG wr A3 Ai' Ao' l x) := Lib.hid ⟨HF.out.ok, HF.out.gl.below hs.since, HF.out.lo, HF.out.hi, hnd, HF.out.ins.below hs.since, HF.out.outs.below hs.since⟩
      have HB := Lib.hid (HX.out.below.trans (hs.since.mono (Nat.le_of_lt (by have := HX.out.size; simp at this; omega))))
      have n1 : w2.heap.size ≠ w.heap.size + 1 := by have := HX.out.size; simp at this; omega
      clear hs hrow hown hnd
      go_wp2_with fail
      refine put5 (F := fun W => Exit.noGoto (bodyPost Tryz.prog Tryz.f52 (PassIs gn l x w)) Exit.ret _ W) g1 ?_
      intro w9 g9 hk9 hb9 hz9
      rw [Exit.noGoto_ret]
      refine bodyPost_ret (res_row_tmp rfl _ _ (w.heap.size + 1) 33 _ (0, 0) _ rfl g9 Tryz.underlying33 rfl (by kernel_rfl)) rfl ?_
      have hB9 : Below w.heap.size w w9 := HB.out.trans (hb9.mono (by omega))
      exact ⟨_, _, _, _, _, _, rfl, HFl.out.zrow g1 (fun k hk => hk9 k hk) (by omega) (H.out.gl.below hB9), hB9⟩
    | succ g =>
      have hlt : k < l.length := by omega
      obtain ⟨hl, bn, offn, rfl, hbn, hcn⟩ := HR.out.since hs.since
      obtain ⟨r, hr⟩ : ∃ r, rows[k]? = some r := ⟨_, List.getElem?_eq_getElem (by rw [hl]; exact hlt)⟩
      obtain ⟨o, nm, A', c', ho, hre, hx, hcells⟩ := hcn k r hr
      subst hre
      have q0 := hcells 0 (by omega)
      have q1 := hcells 1 (by omega)
      have q2 := hcells 2 (by omega)
      have q3 := hcells 3 (by omega)
      have q4 := hcells 4 (by omega)
      simp only [Nat.add_zero, List.getElem?_cons_zero, List.getElem?_cons_succ] at q0 q1 q2 q3 q4
      obtain ⟨v, hrow, hown⟩ := hs.row
      obtain ⟨Av, cv, hv⟩ := hown.form
      rw [List.length_take, hl, Nat.min_eq_left (by omega)] at hv
      subst hv
      obtain ⟨s0, s1, s2, s3, s4, f0, f1, -⟩ := cells5 hrow
      obtain ⟨b2, off2, rfl, hb2, hc2⟩ := hx
      have hm := (HF.out.ok.ops o (List.mem_of_getElem? ho)).cases
      have c0 : wr.cell? ⟨b2, off2, none⟩ = some (.string ⟨#[120]⟩) := hc2 0 (by omega)
      have n1 : b2 < wr.heap.size + 1 := by omega
      have n2 : w2.heap.size < wr.heap.size := by have := hs.size; omega
      have hbn' := below_new wr (.cells #[.string o.op, .string nm, .slice (some ⟨b2, off2, none⟩) o.m c', .string o.out, .slice none 0 0] 37)
      have hl2 := (mapIs_new (hbn'.block (w2.heap.size + 1) (by have := hs.size; omega) |>.trans hs.map)).look2 (s := ⟨#[120]⟩) Tryz.und154 (zero44 _) (by decide)
      simp only [Option.getD_none, Option.isSome_none] at hl2
      have hmlt : (0 : Int) < (o.m : Int) := by omega
      have HS := Lib.hid hs
      have HROW := Lib.hid hrow
      have HOWN := Lib.hid hown
      have HRR := Lib.hid hr
      clear hs hrow hown hcn hcells hc2 hr hbn' ho hl
      go_wp2_with fail
      have n3 : w2.heap.size < wr.heap.size + 1 := by omega
      have n4 : w2.heap.size < wr.heap.size + 1 + 1 := by omega
      have hz : Since wr ((wr.alloc (.cells #[.string o.op, .string nm, .slice (some ⟨b2, off2, none⟩) o.m c', .string o.out, .slice none 0 0] 37)).alloc (.cells #[.int .i64 0, .slice none 0 0, .slice none 0 0] 44)) := ((Since.refl wr).al _).al _
      have HZ := Lib.hid hz
      have HSW := Lib.hid (HS.out.later hz)
      have HOW := Lib.hid (HOWN.out.keep (fun j hj => hz.block j (HOWN.out.lt j hj).2) (fun _ h => h.elim) (fun _ h => h))
      have HRW := Lib.hid (hz.kp HROW.out)
      clear hz
      refine wp_loop_rounds 1 ?_
      rw [rounds_succ]
      go_wp2_with (at_builtin; refine wpList_append_f ((wr.alloc (.cells #[.string o.op, .string nm, .slice (some ⟨b2, off2, none⟩) o.m c', .string o.out, .slice none 0 0] 37)).alloc (.cells #[.int .i64 0, .slice none 0 0, .slice none 0 0] 44)) (repRaw 5) (flatRaw 5) [.string o.op, .string nm, .slice (some ⟨b2, off2, none⟩) o.m c', .string o.out, .slice none 0 0] [.string o.op, .string nm, .slice (some ⟨b2, off2, none⟩) o.m c', .string o.out, .slice none 0 0] rfl (.tmp 69) (.tmp 71) 30 rfl 37 i37 _ 96 Tryz.underlying30 HI.out.1 HI.out.2.1 HI.out.2.2.1 HI.out.2.2.2 rfl (by decide) (by decide) (w2.heap.size + 2) _ _ rfl HOW.out ⟨rfl, rfl, by simp [Value.oneCell']⟩ (wr.heap.size + 1 + 1) (by simp) rfl (by rw [List.length_take]; omega) HSW.out.size ?_; intro v' w7 ho7 hb7; obtain ⟨A7, c7, e7⟩ := ho7.form; rw [List.length_append, List.length_take, Nat.min_eq_left (by rw [HL.out]; omega)] at e7; subst e7; have g7 := (hb7.block _ (by omega)).trans HRW.out; obtain ⟨-, y1, -, -, -, -, yf, -⟩ := cells5 g7)
      have hs7 : FoSt w2 (w7.setCell ⟨w2.heap.size, 1, none⟩ (.slice A7 (k + 1) c7)) gn Ai' Ao' ci' co' l.length rows (k + 1) := FoSt.come HSW.out HRR.out ho7 hb7 g7
      try rw [Exit.noGoto_exit]
      go_wp2_with fail
      go_roundg g
      case rel => exact ⟨k + 1, by omega, by go_num, hs7⟩
      case measure => omega
end Go.Proofs.YtbilddeepnnogaaGreatDoor
end
/- What is needed when: how wide a value is; nothing waits for anything. -/
section
set_option linter.unusedVariables false
set_option maxRecDepth 100000
namespace Go.Proofs.YtbilddeepnnogaaGreatDoor
open Go.RowKit Go.Shelf

set_option maxHeartbeats 1600000 in
theorem width_any (s : ByteArray) (A : Option Addr) (c : Nat) (x : Int) (w : World) (h : One w A x) (h1 : 1 ≤ x) (h2 : x ≤ 30) :
    Calls Tryz.prog 122 #[.agg #[.string s, .int .i64 6, .slice A 1 c]] w fun e w' => e = .returned (.tuple #[.int .i64 (4 * x), .int .i64 0]) ∧ Below w.heap.size w w' := by
  have HC := count1_any (w.alloc (.cells #[.string s, .int .i64 6, .slice A 1 c] 28)) A c x (h.below (below_new _ _)) h1 h2
  clear h
  go_enter Tryz.func122, Tryz.ntmps122
  go_wp2_with (first | (go_at_call 87; refine (check6_any _ _ sm0).mono ?_; rintro e w' ⟨rfl, rfl⟩) | (go_at_call 42; refine HC.mono ?_; rintro e w' ⟨rfl, rfl⟩))
  go_ret2
  exact ⟨rfl, below_new _ _⟩
theorem make_ints2 (n : Nat) (hn : n ≤ 1000) (w : World) : (Instr.makeSlice 132 (.int .i64 (n : Int)) (.int .i64 (n : Int))).run Tryz.prog w = .ok (.slice (some ⟨w.heap.size, 0, none⟩) n n) (w.alloc (.cells (madeCells #[.slice none 0 0] n) 23)) :=
  run_make_row' (P := Tryz.prog) 132 23 (.slice none 0 0) 24 Tryz.underlying132 (by kernel_rfl) rfl .i64 .i64 n (by omega) (by omega) w
theorem make_rows (n : Nat) (hn : n ≤ 1000) (w : World) : (Instr.makeSlice 130 (.int .i64 (n : Int)) (.int .i64 (n : Int))).run Tryz.prog w = .ok (.slice (some ⟨w.heap.size, 0, none⟩) n n) (w.alloc (.cells (madeCells #[.slice none 0 0] n) 133)) :=
  run_make_row' (P := Tryz.prog) 130 133 (.slice none 0 0) 24 Tryz.underlying130 (by kernel_rfl) rfl .i64 .i64 n (by omega) (by omega) w
/-- A slice of n slices that hold nothing. -/
def Nils (w : World) (A : Option Addr) (n : Nat) : Prop := ∃ b, A = some ⟨b, 0, none⟩ ∧ b < w.heap.size ∧ ∀ j, j < n → w.cell? ⟨b, j, none⟩ = some (.slice none 0 0)
theorem Nils.below {w w' : World} {A : Option Addr} {n : Nat} (h : Nils w A n) (hb : Below w.heap.size w w') : Nils w' A n := by
  obtain ⟨b, rfl, h1, h2⟩ := h
  exact ⟨b, rfl, Nat.lt_of_lt_of_le h1 hb.size, fun j hj => (hb.cell (p := ⟨b, j, none⟩) h1).trans (h2 j hj)⟩
set_option maxHeartbeats 1600000 in
theorem lsorted_any (gn : ByteArray) (An Ai Ao : Option Addr) (cn ci co : Nat) (l : List Op1) (x : Int) (w : World) (h : FlatG w An Ai Ao l x) :
    Calls Tryz.prog 195 #[.agg #[.string gn, .slice An l.length cn, .slice Ai 1 ci, .slice Ao l.length co, .slice none 0 0]] w fun e w' => ∃ A c, e = .returned (.tuple #[.slice A l.length c, .int .i64 0]) ∧ NdAt w' A l ∧ Below w.heap.size w w' := by
  have H := Lib.hid h
  have H5 := h.ok.most
  have H0 := h.ok.pos
  have hnl : (l.length : Int) ≤ 5 := by omega
  clear h
  go_enter Tryz.func195, Tryz.ntmps195
  go_wp2_with fail
  refine newX (F := fun W => Calls _ _ _ W _) ?_
  intro w1 h1
  refine (order_any gn An Ai Ao cn ci co l x w1 (H.out.below h1.below)).mono ?_
  rintro e w2 ⟨Aq, cq, rfl, hq, hb⟩
  obtain ⟨rows, hrr⟩ := (H.out.below (h1.all hb).below).nodes.raw
  have HR := Lib.hid hrr
  have HL := Lib.hid hrr.len
  have HX := Lib.hid (h1.all hb)
  have HQ := Lib.hid hq
  obtain ⟨r0, r1, r2, r3, r4, -⟩ := cells5 ((h1.all hb).b0 rfl)
  obtain ⟨i37, hi37⟩ : ∃ i, Tryz.prog.info? 37 = some i ∧ i.zero = some (.agg #[.string ⟨#[]⟩, .string ⟨#[]⟩, .slice none 0 0, .string ⟨#[]⟩, .slice none 0 0]) ∧ i.size = 5 ∧ i.bytes = 96 := by
    obtain ⟨i, h1, h2, h3, h4⟩ := info_parts Tryz.info37
    exact ⟨i, h1, h2, h3, h4⟩
  have HI := Lib.hid hi37
  clear hi37 hrr hq hb h1
  go_wp2_with fail
  clear r0 r1 r2 r3 r4
  go_loopw [6, 19] (fun v i wr => ∃ k : Nat, k ≤ l.length ∧ i = .int .i64 k ∧ Since w2 wr ∧ OwnL (repRaw 5) 37 wr w2.heap.size (fun _ => False) v (rows.take k)) (fun _ i _ => l.length - (intOf i).toNat)
  case atStart => exact ⟨0, by omega, rfl, Since.refl _, ownL_nil⟩
  case round =>
    obtain ⟨k, hk, rfl, hs, hown⟩ := hrel
    by_cases hlt : k < l.length
    · obtain ⟨hl, bn, offn, rfl, hbn, hcn⟩ := HR.out.since hs
      obtain ⟨r, hr⟩ : ∃ r, rows[k]? = some r := ⟨_, List.getElem?_eq_getElem (by rw [hl]; exact hlt)⟩
      obtain ⟨o, nm, A', c', ho, hre, hx, hcells⟩ := hcn k r hr
      subst hre
      have q0 := hcells 0 (by omega)
      have q1 := hcells 1 (by omega)
      have q2 := hcells 2 (by omega)
      have q3 := hcells 3 (by omega)
      have q4 := hcells 4 (by omega)
      simp only [Nat.add_zero, List.getElem?_cons_zero, List.getElem?_cons_succ] at q0 q1 q2 q3 q4
      obtain ⟨bq, oq, rfl, hbq, hcq⟩ := HQ.out.below hs
      have cq0 := hcq k hlt
      obtain ⟨r0, r1, r2, r3, r4, -⟩ := cells5 (hs.kp (HX.out.b0 rfl))
      obtain ⟨Av, cv, hv⟩ := hown.form
      rw [List.length_take, hl, Nat.min_eq_left (by omega)] at hv
      subst hv
      have HS := Lib.hid hs
      have HOWN := Lib.hid hown
      have HRR := Lib.hid hr
      clear hs hown hcn hcells hr hcq ho hx hl
      go_wp2_with (at_builtin; refine wpList_append_f wr (repRaw 5) (flatRaw 5) [.string o.op, .string nm, .slice A' o.m c', .string o.out, .slice none 0 0] [.string o.op, .string nm, .slice A' o.m c', .string o.out, .slice none 0 0] rfl (.tmp 23) (.tmp 29) 30 rfl 37 i37 _ 96 Tryz.underlying30 HI.out.1 HI.out.2.1 HI.out.2.2.1 HI.out.2.2.2 rfl (by decide) (by decide) w2.heap.size _ _ rfl HOWN.out ⟨rfl, rfl, by simp [Value.oneCell']⟩ wr.heap.size rfl rfl (by rw [List.length_take]; omega) HS.out.size ?_; intro v' w7 ho7 hb7)
      have hs7 : Since w2 w7 := Below.trans HS.out hb7
      rw [show rows.take k ++ [[.string o.op, .string nm, .slice A' o.m c', .string o.out, .slice none 0 0]] = rows.take (k + 1) by rw [List.take_add_one, HRR.out]; rfl] at ho7
      go_wp2_with fail
      go_roundw
      case rel => exact ⟨k + 1, by omega, by go_num, hs7, ho7⟩
      case measure => simp [intOf]; omega
    · obtain rfl : k = l.length := by omega
      rw [← HL.out, List.take_length] at hown
      obtain ⟨A3, c3, rfl, hnd⟩ := HR.out.again (fun A m h => h.below hs) hown H0
      have HB := Lib.hid (HX.out.all hs).below
      clear hs hown
      go_wp2_with fail
      go_ret2
      exact ⟨_, _, rfl, hnd, HB.out⟩
set_option maxHeartbeats 3200000 in
theorem lreaders_any (A : Option Addr) (c : Nat) (l : List Op1) (w : World) (h : NdAt w A l) (hok : FlatL l) :
    Calls Tryz.prog 197 #[.slice A l.length c] w fun e w' => ∃ A', e = .returned (.slice A' l.length l.length) ∧ Nils w' A' l.length ∧ Below w.heap.size w w' := by
  have H := Lib.hid h
  have HK := Lib.hid hok
  have H5 := hok.most
  have H0 := hok.pos
  have hnl : (l.length : Int) ≤ 5 := by omega
  have hmm := @run_makeMap Tryz.prog
  have hms := make_ints2 l.length (by omega)
  clear h hok
  go_enter Tryz.func197, Tryz.ntmps197
  go_wp2_with fail
  refine newX2 (F := fun W => Code.wp _ _ _ _ W) ?_
  intro w1 h1
  have HX := Lib.hid h1
  clear h1 hmm hms
  go_loopw [17] (fun i wr => ∃ k : Nat, k ≤ l.length ∧ i = .int .i64 k ∧ Fx w wr [none, some (.cells (madeCells #[.slice none 0 0] l.length) 23)] ∧ ∃ f m, m ≤ k ∧ MapIs wr w.heap.size f m ∧ f ⟨#[120]⟩ = none) (fun i _ => l.length - (intOf i).toNat)
  case atStart => exact ⟨0, by omega, rfl, HX.out.free _ rfl (fun i o e => by match i, e with | 1, e => exact e), _, 0, Nat.le_refl _, mapIs_new (HX.out.b0 rfl), rfl⟩
  case round =>
    obtain ⟨k, hk, rfl, hs, f, m, hm, hmap, hf⟩ := hrel
    by_cases hlt : k < l.length
    · have hsz := hs.size
      simp at hsz
      obtain ⟨bn, offn, rfl, hbn, hcn⟩ := H.out.below hs.below
      obtain ⟨o, ho⟩ : ∃ o, l[k]? = some o := ⟨_, List.getElem?_eq_getElem hlt⟩
      have hmem := List.mem_of_getElem? ho
      obtain ⟨nm, A', c', q0, q1, q2, q3, q4, q5⟩ := hcn k o ho
      have hmc := (HK.out.ops o hmem).cases
      have hout := HK.out.outs o hmem
      have hsh := HK.out.short o hmem
      have HS := Lib.hid hs
      have HMAP := Lib.hid (hmap.below (below_new wr (.cells #[.string o.op, .string nm, .slice A' o.m c', .string o.out, .slice none 0 0] 37)))
      have HXs := Lib.hid (q5.below (below_new wr (.cells #[.string o.op, .string nm, .slice A' o.m c', .string o.out, .slice none 0 0] 37)))
      clear hs hmap q5 hcn ho hmem
      go_wp2_with fail
      obtain ⟨b2, off2, rfl, hb2, hc2⟩ := HXs.out
      have HC2 := Lib.hid hc2
      have hlk := HMAP.out.look2 (s := ⟨#[120]⟩) Tryz.und142 (zero3 _) (by decide)
      rw [hf] at hlk
      simp only [Option.getD_none, Option.isSome_none] at hlk
      have hml : (o.m : Int) ≤ 2 := by omega
      clear hc2
      go_loopw [25] (fun i wy => ∃ j : Nat, j ≤ o.m ∧ i = .int .i64 j ∧ wy = wr.alloc (.cells #[.string o.op, .string nm, .slice (some ⟨b2, off2, none⟩) o.m c', .string o.out, .slice none 0 0] 37)) (fun i _ => o.m - (intOf i).toNat)
      case atStart => exact ⟨0, by omega, rfl, rfl⟩
      case round =>
        obtain ⟨j, hj, rfl, rfl⟩ := hrel
        by_cases hjl : j < o.m
        · have c0 := HC2.out j hjl
          have hjm : (j : Int) < (o.m : Int) := by omega
          go_wp2_with fail
          go_roundw
          case rel => exact ⟨j + 1, by omega, by go_num, trivial⟩
          case measure => simp [intOf]; omega
        · obtain rfl : j = o.m := by omega
          obtain ⟨w9, hr9, hm9, hg9⟩ := HMAP.out.put Tryz.und142 hsh (by omega) (.int .i64 k)
          have HM9 := Lib.hid hm9
          have HG9 := Lib.hid ((HS.out.new _).only (i := 0) rfl (grown_only hg9))
          clear hm9 hg9
          go_wp2_with fail
          go_roundw
          case rel => exact ⟨k + 1, by omega, by go_num, HG9.out, _, _, by split <;> omega, HM9.out, by simp [upd, hf]; intro e; exact hout.2 (by rw [← e]; kernel_rfl)⟩
          case measure => simp [intOf]; omega
    · obtain rfl : k = l.length := by omega
      have HS := Lib.hid hs
      clear hs hmap
      go_wp2_with fail
      go_ret
      have hz := HS.out.size
      simp at hz
      exact ⟨_, rfl, ⟨_, rfl, by omega, fun j hj => by rw [cell_of_row _ _ j _ 23 (0, 0) (HS.out.b1 rfl)]; exact made_at _ _ _ hj⟩, HS.out.below⟩
set_option maxHeartbeats 1600000 in
theorem lrows_any (A : Option Addr) (n : Nat) (w : World) (h : Nils w A n) (h5 : n ≤ 5) :
    Calls Tryz.prog 196 #[.slice A n n] w fun e w' => ∃ A', e = .returned (.slice A' n n) ∧ Below w.heap.size w w' := by
  have H := Lib.hid h
  have hnl : (n : Int) ≤ 5 := by omega
  have hm1 := make_rows n (by omega)
  have hm2 := make_bools n (by omega)
  clear h
  go_enter Tryz.func196, Tryz.ntmps196
  go_wp2_with fail
  refine newX (F := fun W => Code.wp _ _ _ _ W) ?_
  intro w1 h1
  have HX := Lib.hid h1
  clear h1 hm1
  go_loopw [4] (fun i wr => ∃ k : Nat, k ≤ n ∧ i = .int .i64 ((k : Int) - 1) ∧ Below w.heap.size w wr ∧ ∃ cs, cs.size = n ∧ wr.heap[w.heap.size]? = some (.cells cs 133 (0, 0))) (fun i _ => (intOf i + 1).toNat)
  case atStart => exact ⟨n, by omega, rfl, HX.out.below, _, size_madeCells _ _, HX.out.b0 rfl⟩
  case round =>
    obtain ⟨k, hk, rfl, hb, cs, hcs, hrow⟩ := hrel
    rcases Nat.eq_zero_or_pos k with rfl | hk0
    · go_wp2_with fail
      go_ret
      exact ⟨_, rfl, hb⟩
    · obtain ⟨j, rfl⟩ : ∃ j, k = j + 1 := ⟨k - 1, by omega⟩
      have e1 : ((j + 1 : Nat) : Int) - 1 = (j : Int) := by omega
      rw [e1]
      have hbl : w.heap.size < wr.heap.size := (Array.getElem?_eq_some_iff.1 hrow).1
      obtain ⟨b, rfl, hbA, hc⟩ := H.out
      have nb : b ≠ w.heap.size := by omega
      have c0 := (hb.cell (p := ⟨b, j, none⟩) hbA).trans (hc j (by omega))
      have nb2 : b < wr.heap.size := by omega
      have c1 : (wr.alloc (.cells (madeCells #[.bool false] n) 4)).cell? ⟨w.heap.size, j, none⟩ = some cs[j] := (World.cell?_alloc_lt wr _ _ hbl).trans (by rw [cell_of_row _ _ j _ 133 (0, 0) hrow]; exact Array.getElem?_eq_getElem (by omega))
      have f1 := frozen_row (((below_new wr (.cells (madeCells #[.bool false] n) 4)).block _ hbl).trans hrow) j
      have HB := Lib.hid hb
      have HRW := Lib.hid hrow
      have HROW := Lib.hid (((below_new wr (.cells (madeCells #[.bool false] n) 4)).block _ hbl).trans hrow)
      clear hb hrow hc
      go_wp2_with fail
      refine wp_loop_rounds 1 ?_
      rw [rounds_succ]
      go_wp2_with fail
      go_roundw
      case rel =>
        have g1 := heap_setCell_same _ _ j _ _ (.slice (some ⟨wr.heap.size, 0, none⟩) n n) HRW.out
        exact ⟨j, by omega, by go_num, (HB.out.setCell (Nat.le_refl _) _).alloc (by simp [World.setCell]; omega) _, _, by rw [← hcs]; simp, ((below_new _ _).block _ (Array.getElem?_eq_some_iff.1 g1).1).trans g1⟩
      case measure => simp [intOf]
set_option maxHeartbeats 1600000 in
theorem before_any (gn : ByteArray) (An Ai Ao : Option Addr) (cn ci co : Nat) (l : List Op1) (x : Int) (w : World) (h : FlatG w An Ai Ao l x) :
    Calls Tryz.prog 121 #[.agg #[.string gn, .slice An l.length cn, .slice Ai 1 ci, .slice Ao l.length co, .slice none 0 0]] w fun e w' => ∃ A, e = .returned (.tuple #[.slice A l.length l.length, .int .i64 0]) ∧ Below w.heap.size w w' := by
  have H := Lib.hid h
  clear h
  go_enter Tryz.func121, Tryz.ntmps121
  go_wp2_with fail
  refine newX (F := fun W => Calls _ _ _ W _) ?_
  intro w1 h1
  refine (lsorted_any gn An Ai Ao cn ci co l x w1 (H.out.below h1.below)).mono ?_
  rintro e w2 ⟨A2, c2, rfl, hn2, hb2⟩
  go_wp2_with fail
  refine (lreaders_any A2 c2 l w2 hn2 H.out.ok).mono ?_
  rintro e w3 ⟨A3, rfl, hn3, hb3⟩
  go_wp2_with fail
  refine (lrows_any A3 l.length w3 hn3 H.out.ok.most).mono ?_
  rintro e w4 ⟨A4, rfl, hb4⟩
  have h4 := ((h1.all hb2).all hb3).all hb4
  go_wp2_with fail
  go_ret2
  exact ⟨_, rfl, h4.below⟩
end Go.Proofs.YtbilddeepnnogaaGreatDoor
end
