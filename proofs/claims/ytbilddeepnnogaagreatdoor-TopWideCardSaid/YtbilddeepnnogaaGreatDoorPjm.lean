import Derived.Test.YtbilddeepnnogaaGreatDoorPfm
import Derived.Test.YtbilddeepnnogaaGreatDoorPam
import Derived.Test.YtbilddeepnnogaaGreatDoorFd
set_option linter.unusedVariables false
set_option linter.unusedSimpArgs false
/- Layer 5: a graph under way. -/
section
set_option linter.unusedVariables false
set_option maxRecDepth 100000
namespace Go.Proofs.YtbilddeepnnogaaGreatDoor
open Go.RowKit Go.Shelf

abbrev vlX (x : Nat) (s : ByteArray) : Vl := ⟨s, 6, [(x : Int)]⟩
/-- A graph under way: so many nodes, inputs, outputs. -/
structure GrW (w w1 wr : World) (lab : Nat → Nat) (ln : List Op1) (li lo : List Vl) (vn vi vo : Value) : Prop where
  lt : w.heap.size + 2 ≤ w1.heap.size
  only : Only (w.heap.size + 1) w1 wr
  row : wr.heap[w.heap.size + 1]? = some (.cells #[.string ⟨#[]⟩, vn, vi, vo, .slice none 0 0] 33 (0, 0))
  on : OL repNx 37 lab 1 wr w1.heap.size vn ln
  oi : OL repVl 28 lab 2 wr w1.heap.size vi li
  oo : OL repVl 28 lab 3 wr w1.heap.size vo lo
  fresh : Fresh lab wr
  low : ∀ i, i < w1.heap.size → lab i = 0
section
variable {w w1 wr w' : World} {lab lab' : Nat → Nat} {ln : List Op1} {li lo : List Vl} {vn vi vo v' : Value} {o : Op1} {v : Vl}
theorem GrW.since (h : GrW w w1 wr lab ln li lo vn vi vo) (hs : Since wr w') : GrW w w1 w' lab ln li lo vn vi vo :=
  ⟨h.lt, h.only.trans (only_of_since _ hs), hs.kp h.row, h.on.below hs, h.oi.below hs, h.oo.below hs, h.fresh.more hs.size, h.low⟩
theorem GrW.base (h : GrW w w1 wr lab ln li lo vn vi vo) {i : Nat} (hi : i ≠ 0) (hg : Grew lab lab' i wr w') : w'.heap[w.heap.size + 1]? = wr.heap[w.heap.size + 1]? ∧ Only (w.heap.size + 1) w1 w' ∧ (∀ u p, Fresh lab' (w'.setCell p u)) ∧ ∀ j, j < w1.heap.size → lab' j = 0 := by
  have hlt : w.heap.size + 1 < wr.heap.size := (Array.getElem?_eq_some_iff.1 h.row).1
  have h2 := h.lt
  exact ⟨hg.keep _ hlt (by rw [h.low _ (by omega)]; exact fun e => hi e.symm), hg.only h.only (fun j hj => by rw [h.low j hj]; exact fun e => hi e.symm), fun u p k hk => hg.fresh k (by simpa [World.setCell] using hk), fun j hj => (hg.lab j (Nat.lt_of_lt_of_le hj h.only.size)).trans (h.low j hj)⟩
theorem GrW.putN (h : GrW w w1 wr lab ln li lo vn vi vo) (h1 : OL repNx 37 lab' 1 w' w1.heap.size v' (ln ++ [o])) (hg : Grew lab lab' 1 wr w') : w'.heap[w.heap.size + 1]? = wr.heap[w.heap.size + 1]? ∧ GrW w w1 (w'.setCell ⟨w.heap.size + 1, 1, none⟩ v') lab' (ln ++ [o]) li lo v' vi vo := by
  obtain ⟨b1, b2, b3, b4⟩ := h.base (by decide) hg
  have hlt := h.lt
  have hb : (⟨w.heap.size + 1, 1, none⟩ : Addr).block < w1.heap.size := by dsimp only; omega
  exact ⟨b1, hlt, b2.set_ _ _, by simpa using heap_setCell_same w' (w.heap.size + 1) 1 _ 33 v' (b1.trans h.row), h1.set_far hb _, (h.oi.other hg (by decide) (by decide)).set_far hb _, (h.oo.other hg (by decide) (by decide)).set_far hb _, b3 _ _, b4⟩
theorem GrW.putI (h : GrW w w1 wr lab ln li lo vn vi vo) (h1 : OL repVl 28 lab' 2 w' w1.heap.size v' (li ++ [v])) (hg : Grew lab lab' 2 wr w') : w'.heap[w.heap.size + 1]? = wr.heap[w.heap.size + 1]? ∧ GrW w w1 (w'.setCell ⟨w.heap.size + 1, 2, none⟩ v') lab' ln (li ++ [v]) lo vn v' vo := by
  obtain ⟨b1, b2, b3, b4⟩ := h.base (by decide) hg
  have hlt := h.lt
  have hb : (⟨w.heap.size + 1, 2, none⟩ : Addr).block < w1.heap.size := by dsimp only; omega
  exact ⟨b1, hlt, b2.set_ _ _, by simpa using heap_setCell_same w' (w.heap.size + 1) 2 _ 33 v' (b1.trans h.row), (h.on.other hg (by decide) (by decide)).set_far hb _, h1.set_far hb _, (h.oo.other hg (by decide) (by decide)).set_far hb _, b3 _ _, b4⟩
theorem GrW.putO (h : GrW w w1 wr lab ln li lo vn vi vo) (h1 : OL repVl 28 lab' 3 w' w1.heap.size v' (lo ++ [v])) (hg : Grew lab lab' 3 wr w') : w'.heap[w.heap.size + 1]? = wr.heap[w.heap.size + 1]? ∧ GrW w w1 (w'.setCell ⟨w.heap.size + 1, 3, none⟩ v') lab' ln li (lo ++ [v]) vn vi v' := by
  obtain ⟨b1, b2, b3, b4⟩ := h.base (by decide) hg
  have hlt := h.lt
  have hb : (⟨w.heap.size + 1, 3, none⟩ : Addr).block < w1.heap.size := by dsimp only; omega
  exact ⟨b1, hlt, b2.set_ _ _, by simpa using heap_setCell_same w' (w.heap.size + 1) 3 _ 33 v' (b1.trans h.row), (h.on.other hg (by decide) (by decide)).set_far hb _, (h.oi.other hg (by decide) (by decide)).set_far hb _, h1.set_far hb _, b3 _ _, b4⟩
theorem GrW.name (h : GrW w w1 wr lab ln li lo vn vi vo) : GrW w w1 (wr.setCell ⟨w.heap.size + 1, 0, none⟩ (.string ⟨#[]⟩)) lab ln li lo vn vi vo := by
  have hlt := h.lt
  have hb : (⟨w.heap.size + 1, 0, none⟩ : Addr).block < w1.heap.size := by dsimp only; omega
  exact ⟨hlt, h.only.set_ _ _, by simpa using heap_setCell_same wr (w.heap.size + 1) 0 _ 33 (.string ⟨#[]⟩) h.row, h.on.set_far hb _, h.oi.set_far hb _, h.oo.set_far hb _, fun k hk => h.fresh k (by simpa [World.setCell] using hk), h.low⟩
/-- A node that is new, as an element. -/
theorem GrW.nodeR (h : GrW w w1 wr lab ln li lo vn vi vo) {b c : Nat} (hb : wr.heap.size ≤ b) (hs : Since wr w') (hx : Xs w' (some ⟨b, 0, none⟩) o.m) : repNx.R w' (Zl lab w1.heap.size w') [.string o.op, .string ⟨#[]⟩, .slice (some ⟨b, 0, none⟩) o.m c, .string o.out, .slice none 0 0] o := by
  obtain ⟨b', o', e, h1, h2⟩ := hx
  cases e
  exact ⟨⟨#[]⟩, b, 0, c, rfl, ⟨h.fresh b hb, Nat.le_trans h.only.size hb, h1⟩, h1, h2⟩
theorem GrW.valueR (h : GrW w w1 wr lab ln li lo vn vi vo) {b c x : Nat} {s : ByteArray} (hb : wr.heap.size ≤ b) (hs : Since wr w') (hx : One w' (some ⟨b, 0, none⟩) x) : repVl.R w' (Zl lab w1.heap.size w') [.string s, .int .i64 6, .slice (some ⟨b, 0, none⟩) 1 c] (vlX x s) := by
  obtain ⟨b', o', e, h1, h2⟩ := hx
  cases e
  exact ⟨_, rfl, (one_slc h1 h2 c).keep (fun _ _ => rfl) (fun k hk => by subst hk; exact ⟨h.fresh k hb, Nat.le_trans h.only.size hb, h1⟩)⟩
end
theorem graphFs_len (l : List Op1) (x : Nat) : (graphFs l x).length = 2 * l.length + 2 := by simp [graphFs]; omega
theorem graphFs_node {l : List Op1} {x k : Nat} {o : Op1} (h : l[k]? = some o) : (graphFs l x)[k]? = some (nodeF o) := by
  have hk := (List.getElem?_eq_some_iff.1 h).1
  simp only [graphFs, List.append_assoc]
  rw [List.getElem?_append_left (by rw [List.length_map]; exact hk), List.getElem?_map, h]
  rfl
theorem graphFs_name (l : List Op1) (x : Nat) : (graphFs l x)[l.length]? = some (tF 2 ⟨#[]⟩) := by
  simp only [graphFs, List.append_assoc]
  rw [List.getElem?_append_right (by rw [List.length_map]; exact Nat.le_refl _), List.length_map, Nat.sub_self]
  rfl
theorem graphFs_in (l : List Op1) (x : Nat) : (graphFs l x)[l.length + 1]? = some (tF 11 (textB (valFs ⟨#[120]⟩ x))) := by
  simp only [graphFs, List.append_assoc]
  rw [List.getElem?_append_right (by rw [List.length_map]; omega), List.length_map, show l.length + 1 - l.length = 1 by omega]
  rfl
theorem graphFs_out {l : List Op1} {x k : Nat} {o : Op1} (h : l[k]? = some o) : (graphFs l x)[l.length + 2 + k]? = some (outF x o) := by
  simp only [graphFs, List.append_assoc]
  rw [List.getElem?_append_right (by rw [List.length_map]; omega), List.length_map, show l.length + 2 + k - l.length = k + 1 + 1 by omega]
  simp only [List.cons_append, List.nil_append, List.getElem?_cons_succ]
  rw [List.getElem?_map, h]
  rfl
end Go.Proofs.YtbilddeepnnogaaGreatDoor
end
/- Layer 5: a graph read. -/
section
set_option linter.unusedVariables false
set_option maxRecDepth 100000
namespace Go.Proofs.YtbilddeepnnogaaGreatDoor
open Go.RowKit Go.Shelf

/-- What a graph's fields have given so far. -/
def Ph (l : List Op1) (x k : Nat) (ln : List Op1) (li lo : List Vl) : Prop := (k ≤ l.length ∧ ln = l.take k ∧ li = [] ∧ lo = []) ∨ (k = l.length + 1 ∧ ln = l ∧ li = [] ∧ lo = []) ∨ (∃ j, k = l.length + 2 + j ∧ j ≤ l.length ∧ ln = l ∧ li = [vlX x ⟨#[120]⟩] ∧ lo = (l.take j).map (fun o => vlX x o.out))
set_option maxHeartbeats 6400000 in
theorem graph51 (l : List Op1) (x : Nat) (hl : FlatL l) (hx1 : 1 ≤ x) (hx : x ≤ 30) (hs : ∀ o ∈ l, (o.op.size ≤ 100 ∧ o.out.size ≤ 100) ∧ o.m ≤ 2) (w : World) :
    Calls Tryz.prog 51 #[.string (textB (graphFs l x))] w fun e w' => ∃ An cn Ai ci Ao co, e = .returned (.agg #[.string ⟨#[]⟩, .slice An l.length cn, .slice Ai 1 ci, .slice Ao l.length co, .slice none 0 0]) ∧ (∀ W, (∀ k, w.heap.size ≤ k → k < w'.heap.size → W.heap[k]? = w'.heap[k]?) → w'.heap.size ≤ W.heap.size → Gl W → FlatG W An Ai Ao l x) ∧ Since w w' := by
  have h5 := hl.most
  have h0 := hl.pos
  have HF := Lib.hid (fun W => flds93 (graphFs l x) (graph_ok hs) (by rw [graphFs_len]; omega) (by rw [graphFs_len]; omega) W)
  obtain ⟨i37, hi37⟩ : ∃ i, Tryz.prog.info? 37 = some i ∧ i.zero = some (.agg #[.string ⟨#[]⟩, .string ⟨#[]⟩, .slice none 0 0, .string ⟨#[]⟩, .slice none 0 0]) ∧ i.size = 5 ∧ i.bytes = 96 := by
    obtain ⟨i, h1, h2, h3, h4⟩ := info_parts Tryz.info37
    exact ⟨i, h1, h2, h3, h4⟩
  obtain ⟨i28, hi28⟩ : ∃ i, Tryz.prog.info? 28 = some i ∧ i.zero = some (.agg #[.string ⟨#[]⟩, .int .i64 0, .slice none 0 0]) ∧ i.size = 3 ∧ i.bytes = 48 := by
    obtain ⟨i, h1, h2, h3, h4⟩ := info_parts Tryz.info28
    exact ⟨i, h1, h2, h3, h4⟩
  have HI := Lib.hid hi37
  have HJ := Lib.hid hi28
  have HL := Lib.hid (And.intro hl hs)
  have HLL := Lib.hid (graphFs_len l x)
  clear hi37 hi28 hl hs
  go_enter Tryz.func51, Tryz.ntmps51
  go_wp2_with fail
  refine newX2 (F := fun W => Calls _ _ _ W _) ?_
  intro w0 h0'
  have z0 : w.heap.size + 2 ≤ w0.heap.size := h0'.size
  have HX0 := Lib.hid h0'
  clear h0'
  refine (HF.out w0).mono ?_
  rintro e w1 ⟨A, c, rfl, hfl, hbA, hs1'⟩
  have HX1 := Lib.hid (HX0.out.all hs1')
  have z1 := hs1'.size
  have HFL := Lib.hid hfl
  have HBA := Lib.hid hbA
  clear hfl hbA hs1'
  rw [HLL.out]
  have HST := Lib.hid (show GrW w w1 w1 (fun _ => 0) [] [] [] (.slice none 0 0) (.slice none 0 0) (.slice none 0 0) from ⟨by omega, Only.refl _ _, HX1.out.b1 rfl, ol_nil _ _ _ _ _ _, ol_nil _ _ _ _ _ _, ol_nil _ _ _ _ _ _, fresh_none _, fun _ _ => rfl⟩)
  obtain ⟨n, hn⟩ : ∃ n, n = 2 * l.length + 2 := ⟨_, rfl⟩
  rw [← hn]
  have hn12 : (n : Int) ≤ 12 := by omega
  have HN := Lib.hid hn
  clear hn
  go_wp2_with fail
  go_loopw [9] (fun i wr => ∃ k : Nat, k ≤ n ∧ i = .int .i64 k ∧ ∃ lab ln li lo vn vi vo, GrW w w1 wr lab ln li lo vn vi vo ∧ Ph l x k ln li lo) (fun i _ => n - (intOf i).toNat)
  case atStart => exact ⟨0, Nat.zero_le _, rfl, _, _, _, _, _, _, _, HST.out, .inl ⟨Nat.zero_le _, rfl, rfl, rfl⟩⟩
  case round =>
    obtain ⟨k, hk, rfl, lab, ln, li, lo, vn, vi, vo, hs, hp⟩ := hrel
    by_cases hlt : k < n
    · have hki : (k : Int) < n := by omega
      obtain ⟨b, off, eA, hb, hc⟩ := HFL.out
      have hbw := HBA.out b off eA
      subst eA
      have ce : ∀ j f, (graphFs l x)[j]? = some f → wr.cell? ⟨b, off + j * 4, none⟩ = some (.int .i64 f.num) ∧ wr.cell? ⟨b, off + j * 4 + 1, none⟩ = some (.int .i64 f.kind) ∧ wr.cell? ⟨b, off + j * 4 + 2, none⟩ = some (.int .u64 f.u) ∧ wr.cell? ⟨b, off + j * 4 + 3, none⟩ = some (.string f.b) := fun j f hj => by
        have e : ∀ i, wr.cell? ⟨b, i, none⟩ = w1.cell? ⟨b, i, none⟩ := fun i => World.cell?_of_block (a := ⟨b, i, none⟩) (hs.only.block b hb (by omega))
        obtain ⟨a0, a1, a2, a3⟩ := hc j f hj
        exact ⟨(e _).trans a0, (e _).trans a1, (e _).trans a2, (e _).trans a3⟩
      have hcase : (k < l.length) ∨ (k = l.length) ∨ (k = l.length + 1) ∨ (l.length + 2 ≤ k) := by omega
      have hn' := HN.out
      rcases hcase with h1 | h1 | h1 | h1
      · obtain ⟨o, ho⟩ : ∃ o, l[k]? = some o := ⟨_, List.getElem?_eq_getElem h1⟩
        obtain ⟨c0, c1, c2, c3⟩ := ce k _ (graphFs_node ho)
        have hmem := List.mem_of_getElem? ho
        have hm1 : 1 ≤ o.m := by have := (HL.out.1.ops o hmem).cases; omega
        have hln : ln.length ≤ 5 ∧ (ln ++ [o] = l.take (k + 1)) ∧ li = [] ∧ lo = [] := by
          rcases hp with ⟨a1, a2, a3, a4⟩ | ⟨a1, -⟩ | ⟨j, a1, -⟩
          · subst a2
            exact ⟨by rw [List.length_take]; omega, by rw [List.take_add_one, ho]; rfl, a3, a4⟩
          · omega
          · omega
        have HP1 := Lib.hid hln.2.1.symm
        have HP2 := Lib.hid hln.2.2
        have hl5 := hln.1
        have HMEM := Lib.hid hmem
        clear hln ho hmem
        have HS := Lib.hid hs
        clear hs ce hc hp hn'
        go_wp2_with fail
        refine newX (F := fun W => Code.wp _ _ _ _ W) ?_
        intro w2 h2
        have hs2 := HS.out.since h2.below
        obtain ⟨Av, cv, ev⟩ := hs2.on.form
        subst ev
        have v2 : w2.cell? ⟨w.heap.size + 1, 1, none⟩ = some (.slice Av ln.length cv) := cell_of_row _ _ 1 _ 33 (0, 0) hs2.row
        have vf := frozen_row hs2.row 1
        obtain ⟨b0, b1, b2, b3, -⟩ := cells4 (h2.b0 rfl)
        have gl : w.heap.size + 1 < w2.heap.size := (Array.getElem?_eq_some_iff.1 hs2.row).1
        have HS2 := Lib.hid hs2
        clear h2 hs2 c0 c1 c2 c3
        first | (go_region_law (first
          | (go_simp; go_at_call 94; refine (txt94 1 _ _).mono ?_; rintro e w3 ⟨rfl, hs3⟩; have t2 : w3.cell? ⟨w.heap.size + 1, 1, none⟩ = some (.slice Av ln.length cv) := (hs3.cell (p := ⟨w.heap.size + 1, 1, none⟩) gl).trans v2; have gl3 : w.heap.size + 1 < w3.heap.size := Nat.lt_of_lt_of_le gl hs3.size; have H3 := Lib.hid (HS2.out.since (Since.trans (Since.dr (Since.refl w2)) hs3)); clear hs3; (try dsimp only))
          | (go_simp; go_at_call 95; refine (node95 o hm1 (HL.out.2 o HMEM.out).2 (HL.out.2 o HMEM.out).1.1 (HL.out.2 o HMEM.out).1.2 _).mono ?_; rintro e w4 ⟨bx, cx, rfl, hbx, hxx, hs4⟩; have u2 : w4.cell? ⟨w.heap.size + 1, 1, none⟩ = some (.slice Av ln.length cv) := (hs4.cell (p := ⟨w.heap.size + 1, 1, none⟩) gl3).trans t2; have gl4 : w.heap.size + 1 < w4.heap.size := Nat.lt_of_lt_of_le gl3 hs4.size; have HR := Lib.hid (H3.out.nodeR (c := cx) hbx hs4 hxx); have H4 := Lib.hid (H3.out.since hs4); clear hs4 hxx; (try dsimp only))
          | (refine step_append_o w4 repNx o [.string o.op, .string ⟨#[]⟩, .slice (some ⟨bx, 0, none⟩) o.m cx, .string o.out, .slice none 0 0] rfl (.tmp 18) (.tmp 22) 30 rfl 37 i37 _ 96 Tryz.underlying30 HI.out.1 HI.out.2.1 HI.out.2.2.1 HI.out.2.2.2 rfl (by decide) (by decide) lab 1 (by decide) w1.heap.size (.slice Av ln.length cv) ln rfl H4.out.on H4.out.fresh HR.out w4.heap.size rfl rfl (by omega) H4.out.only.size ?_; intro v' w5 lab' ho5 hg5; obtain ⟨A5, c5, e5⟩ := ho5.form; rw [List.length_append, List.length_singleton] at e5; subst e5; have hput := H4.out.putN ho5 hg5; have y2 : w5.cell? ⟨w.heap.size + 1, 1, none⟩ = some (.slice Av ln.length cv) := cell_of_row _ _ 1 _ 33 (0, 0) (hput.1.trans H4.out.row); have yf := frozen_row (hput.1.trans H4.out.row) 1))) | fail
        all_goals
          have HNN := Lib.hid hput.2
          clear hput y2 yf ho5 hg5
          go_wp2_with fail
          exact ⟨⟨k + 1, by omega, by go_num, _, _, _, _, _, _, _, HNN.out, .inl ⟨by omega, HP1.out.symm, HP2.out.1, HP2.out.2⟩⟩, by simp [intOf]; omega⟩
      · obtain ⟨c0, c1, c2, c3⟩ := ce k _ (by rw [h1]; exact graphFs_name l x)
        have hln : ln = l ∧ li = [] ∧ lo = [] := by
          rcases hp with ⟨a1, a2, a3, a4⟩ | ⟨a1, -⟩ | ⟨j, a1, -⟩
          · exact ⟨by rw [a2, h1, List.take_length], a3, a4⟩
          · omega
          · omega
        have HP2 := Lib.hid hln
        have HK1 := Lib.hid h1
        have HS := Lib.hid hs
        clear hs ce hc hp hn' hln h1
        go_wp2_with fail
        refine newX (F := fun W => Calls _ _ _ W _) ?_
        intro w2 h2
        have HS2 := Lib.hid (HS.out.since h2.below)
        clear h2
        refine (txt94 2 ⟨#[]⟩ _).mono ?_
        rintro e w3 ⟨rfl, hs3⟩
        have hs3' := HS2.out.since hs3
        have p0 := cell_of_row _ _ 0 _ 33 (0, 0) hs3'.row
        have f0 := frozen_row hs3'.row 0
        have HNN := Lib.hid hs3'.name
        clear hs3 hs3' c0 c1 c2 c3
        go_wp2_with fail
        exact ⟨⟨k + 1, by omega, by go_num, _, _, _, _, _, _, _, HNN.out, .inr (.inl ⟨by have := HK1.out; omega, HP2.out⟩)⟩, by simp [intOf]; omega⟩
      · obtain ⟨c0, c1, c2, c3⟩ := ce k _ (by rw [h1]; exact graphFs_in l x)
        have hln : ln = l ∧ li = [] ∧ lo = [] := by
          rcases hp with ⟨a1, -⟩ | ⟨a1, a2, a3, a4⟩ | ⟨j, a1, -⟩
          · omega
          · exact ⟨a2, a3, a4⟩
          · omega
        have hl5 : li.length ≤ 5 := by rw [hln.2.1]; decide
        have HP2 := Lib.hid hln
        have HK1 := Lib.hid h1
        clear hln h1
        have HS := Lib.hid hs
        clear hs ce hc hp hn'
        go_wp2_with fail
        refine newX (F := fun W => Code.wp _ _ _ _ W) ?_
        intro w2 h2
        have hs2 := HS.out.since h2.below
        obtain ⟨Av, cv, ev⟩ := hs2.oi.form
        subst ev
        have v2 : w2.cell? ⟨w.heap.size + 1, 2, none⟩ = some (.slice Av li.length cv) := cell_of_row _ _ 2 _ 33 (0, 0) hs2.row
        have vf := frozen_row hs2.row 2
        obtain ⟨b0, b1, b2, b3, -⟩ := cells4 (h2.b0 rfl)
        have gl : w.heap.size + 1 < w2.heap.size := (Array.getElem?_eq_some_iff.1 hs2.row).1
        have HS2 := Lib.hid hs2
        clear h2 hs2 c0 c1 c2 c3
        first | (go_region_law (first
          | (go_simp; go_at_call 94; refine (txt94 11 _ _).mono ?_; rintro e w3 ⟨rfl, hs3⟩; have t2 : w3.cell? ⟨w.heap.size + 1, 2, none⟩ = some (.slice Av li.length cv) := (hs3.cell (p := ⟨w.heap.size + 1, 2, none⟩) gl).trans v2; have gl3 : w.heap.size + 1 < w3.heap.size := Nat.lt_of_lt_of_le gl hs3.size; have H3 := Lib.hid (HS2.out.since (Since.trans (Since.dr (Since.refl w2)) hs3)); clear hs3; (try dsimp only))
          | (go_simp; go_at_call 97; refine (value97 ⟨#[120]⟩ x hx1 hx (by decide) _).mono ?_; rintro e w4 ⟨bx, cx, rfl, hbx, hxx, hs4⟩; have u2 : w4.cell? ⟨w.heap.size + 1, 2, none⟩ = some (.slice Av li.length cv) := (hs4.cell (p := ⟨w.heap.size + 1, 2, none⟩) gl3).trans t2; have gl4 : w.heap.size + 1 < w4.heap.size := Nat.lt_of_lt_of_le gl3 hs4.size; have HR := Lib.hid (H3.out.valueR (s := ⟨#[120]⟩) (c := cx) hbx hs4 hxx); have H4 := Lib.hid (H3.out.since hs4); clear hs4 hxx; (try dsimp only))
          | (refine step_append_o w4 repVl (vlX x ⟨#[120]⟩) [.string ⟨#[120]⟩, .int .i64 6, .slice (some ⟨bx, 0, none⟩) 1 cx] rfl (.tmp 43) (.tmp 47) 29 rfl 28 i28 _ 48 Tryz.underlying29 HJ.out.1 HJ.out.2.1 HJ.out.2.2.1 HJ.out.2.2.2 rfl (by decide) (by decide) lab 2 (by decide) w1.heap.size (.slice Av li.length cv) li rfl H4.out.oi H4.out.fresh HR.out w4.heap.size rfl rfl (by omega) H4.out.only.size ?_; intro v' w5 lab' ho5 hg5; obtain ⟨A5, c5, e5⟩ := ho5.form; rw [List.length_append, List.length_singleton] at e5; subst e5; have hput := H4.out.putI ho5 hg5; have y2 : w5.cell? ⟨w.heap.size + 1, 2, none⟩ = some (.slice Av li.length cv) := cell_of_row _ _ 2 _ 33 (0, 0) (hput.1.trans H4.out.row); have yf := frozen_row (hput.1.trans H4.out.row) 2))) | fail
        all_goals
          have HNN := Lib.hid hput.2
          clear hput y2 yf ho5 hg5
          go_wp2_with fail
          exact ⟨⟨k + 1, by omega, by go_num, _, _, _, _, _, _, _, HNN.out, .inr (.inr ⟨0, by have := HK1.out; omega, Nat.zero_le _, HP2.out.1, by rw [HP2.out.2.1]; rfl, by rw [HP2.out.2.2]; rfl⟩)⟩, by simp [intOf]; omega⟩
      · obtain ⟨j, hj⟩ : ∃ j, k = l.length + 2 + j := ⟨k - (l.length + 2), by omega⟩
        have hjl : j < l.length := by omega
        obtain ⟨o, ho⟩ : ∃ o, l[j]? = some o := ⟨_, List.getElem?_eq_getElem hjl⟩
        obtain ⟨c0, c1, c2, c3⟩ := ce k _ (by rw [hj]; exact graphFs_out ho)
        have hmem := List.mem_of_getElem? ho
        have hln : lo.length ≤ 5 ∧ (lo ++ [vlX x o.out] = (l.take (j + 1)).map (fun o => vlX x o.out)) ∧ ln = l ∧ li = [vlX x ⟨#[120]⟩] := by
          rcases hp with ⟨a1, -⟩ | ⟨a1, -⟩ | ⟨j', a1, a2, a3, a4, a5⟩
          · omega
          · omega
          · obtain rfl : j' = j := by omega
            subst a5
            exact ⟨by rw [List.length_map, List.length_take]; omega, by rw [List.take_add_one, ho, Option.toList_some, List.map_append]; rfl, a3, a4⟩
        have HP1 := Lib.hid hln.2.1
        have HP2 := Lib.hid hln.2.2
        have hl5 := hln.1
        have HMEM := Lib.hid hmem
        have HK1 := Lib.hid hj
        clear hln ho hmem hj h1
        have HS := Lib.hid hs
        clear hs ce hc hp hn'
        go_wp2_with fail
        refine newX (F := fun W => Code.wp _ _ _ _ W) ?_
        intro w2 h2
        have hs2 := HS.out.since h2.below
        obtain ⟨Av, cv, ev⟩ := hs2.oo.form
        subst ev
        have v2 : w2.cell? ⟨w.heap.size + 1, 3, none⟩ = some (.slice Av lo.length cv) := cell_of_row _ _ 3 _ 33 (0, 0) hs2.row
        have vf := frozen_row hs2.row 3
        obtain ⟨b0, b1, b2, b3, -⟩ := cells4 (h2.b0 rfl)
        have gl : w.heap.size + 1 < w2.heap.size := (Array.getElem?_eq_some_iff.1 hs2.row).1
        have HS2 := Lib.hid hs2
        clear h2 hs2 c0 c1 c2 c3
        first | (go_region_law (first
          | (go_simp; go_at_call 94; refine (txt94 12 _ _).mono ?_; rintro e w3 ⟨rfl, hs3⟩; have t2 : w3.cell? ⟨w.heap.size + 1, 3, none⟩ = some (.slice Av lo.length cv) := (hs3.cell (p := ⟨w.heap.size + 1, 3, none⟩) gl).trans v2; have gl3 : w.heap.size + 1 < w3.heap.size := Nat.lt_of_lt_of_le gl hs3.size; have H3 := Lib.hid (HS2.out.since (Since.trans (Since.dr (Since.refl w2)) hs3)); clear hs3; (try dsimp only))
          | (go_simp; go_at_call 97; refine (value97 o.out x hx1 hx (HL.out.2 o HMEM.out).1.2 _).mono ?_; rintro e w4 ⟨bx, cx, rfl, hbx, hxx, hs4⟩; have u2 : w4.cell? ⟨w.heap.size + 1, 3, none⟩ = some (.slice Av lo.length cv) := (hs4.cell (p := ⟨w.heap.size + 1, 3, none⟩) gl3).trans t2; have gl4 : w.heap.size + 1 < w4.heap.size := Nat.lt_of_lt_of_le gl3 hs4.size; have HR := Lib.hid (H3.out.valueR (s := o.out) (c := cx) hbx hs4 hxx); have H4 := Lib.hid (H3.out.since hs4); clear hs4 hxx; (try dsimp only))
          | (refine step_append_o w4 repVl (vlX x o.out) [.string o.out, .int .i64 6, .slice (some ⟨bx, 0, none⟩) 1 cx] rfl (.tmp 53) (.tmp 57) 29 rfl 28 i28 _ 48 Tryz.underlying29 HJ.out.1 HJ.out.2.1 HJ.out.2.2.1 HJ.out.2.2.2 rfl (by decide) (by decide) lab 3 (by decide) w1.heap.size (.slice Av lo.length cv) lo rfl H4.out.oo H4.out.fresh HR.out w4.heap.size rfl rfl (by omega) H4.out.only.size ?_; intro v' w5 lab' ho5 hg5; obtain ⟨A5, c5, e5⟩ := ho5.form; rw [List.length_append, List.length_singleton] at e5; subst e5; have hput := H4.out.putO ho5 hg5; have y2 : w5.cell? ⟨w.heap.size + 1, 3, none⟩ = some (.slice Av lo.length cv) := cell_of_row _ _ 3 _ 33 (0, 0) (hput.1.trans H4.out.row); have yf := frozen_row (hput.1.trans H4.out.row) 3))) | fail
        all_goals
          have HNN := Lib.hid hput.2
          clear hput y2 yf ho5 hg5
          go_wp2_with fail
          exact ⟨⟨k + 1, by omega, by go_num, _, _, _, _, _, _, _, HNN.out, .inr (.inr ⟨j + 1, by have := HK1.out; omega, by omega, HP2.out.1, HP2.out.2, HP1.out⟩)⟩, by simp [intOf]; omega⟩
    · obtain ⟨rfl, rfl, rfl⟩ : ln = l ∧ li = [vlX x ⟨#[120]⟩] ∧ lo = l.map (fun o => vlX x o.out) := by
        have hn' := HN.out
        rcases hp with ⟨a1, -⟩ | ⟨a1, -⟩ | ⟨j, a1, a2, a3, a4, a5⟩
        · omega
        · omega
        · obtain rfl : j = l.length := by omega
          rw [List.take_length] at a5
          exact ⟨a3, a4, a5⟩
      obtain ⟨An, cn, e1⟩ := hs.on.form
      obtain ⟨Ai, ci, e2⟩ := hs.oi.form
      obtain ⟨Ao, co, e3⟩ := hs.oo.form
      rw [List.length_map] at e3
      rw [List.length_singleton] at e2
      subst e1 e2 e3
      have hend : ¬ (k : Int) < n := by omega
      obtain ⟨v0, v1, v2, v3, v4, -⟩ := cells5 hs.row
      have HS := Lib.hid hs
      have hsw : Since w wr := Below.trans HX1.out.below (hs.only.below (by omega) (by omega))
      have HSW := Lib.hid hsw
      have hF := few39 An Ai Ao ln.length cn ci co wr h5
      clear hs hsw hp
      go_wp2_with fail
      refine hF.mono ?_
      rintro e w2 ⟨rfl, hs2⟩
      have h2 := HS.out.since hs2
      obtain ⟨p0, p1, p2, p3, p4, -⟩ := cells5 h2.row
      have hrr := hs2.kp ((HS.out.only.block w.heap.size (by omega) (by omega)).trans (HX1.out.b0 rfl))
      obtain ⟨q0, q1, q2, q3, q4, f0, f1, f2, f3, f4⟩ := cells5 hrr
      have H2 := Lib.hid (And.intro h2 (And.intro hrr (HSW.out.trans hs2)))
      clear h2 hrr hs2 v0 v1 v2 v3 v4 hF
      go_wp2_with (go_at_call 14; refine (must_yes _ _).mono ?_; rintro e w4 ⟨rfl, rfl⟩)
      obtain ⟨h2, hrr, hs2⟩ := H2.out
      have rf := setFrom_heap 33 w.heap.size [.string ⟨#[]⟩, .slice An ln.length cn, .slice Ai 1 ci, .slice Ao ln.length co, .slice none 0 0] 0 w2 _ hrr
      have bf : Since w (setFrom w2 w.heap.size 0 [.string ⟨#[]⟩, .slice An ln.length cn, .slice Ai 1 ci, .slice Ao ln.length co, .slice none 0 0]) := Below.trans hs2 (setFrom_below (Nat.le_refl w.heap.size) [.string ⟨#[]⟩, .slice An ln.length cn, .slice Ai 1 ci, .slice Ao ln.length co, .slice none 0 0] 0 w2)
      have hb : ∀ i, (⟨w.heap.size, i, none⟩ : Addr).block < w1.heap.size := fun i => by dsimp only; omega
      have on5 := ((((h2.on.set_far (hb 0) (.string ⟨#[]⟩)).set_far (hb 1) (.slice An ln.length cn)).set_far (hb 2) (.slice Ai 1 ci)).set_far (hb 3) (.slice Ao ln.length co)).set_far (hb 4) (.slice none 0 0)
      have oi5 := ((((h2.oi.set_far (hb 0) (.string ⟨#[]⟩)).set_far (hb 1) (.slice An ln.length cn)).set_far (hb 2) (.slice Ai 1 ci)).set_far (hb 3) (.slice Ao ln.length co)).set_far (hb 4) (.slice none 0 0)
      have oo5 := ((((h2.oo.set_far (hb 0) (.string ⟨#[]⟩)).set_far (hb 1) (.slice An ln.length cn)).set_far (hb 2) (.slice Ai 1 ci)).set_far (hb 3) (.slice Ao ln.length co)).set_far (hb 4) (.slice none 0 0)
      refine bodyPost_ret (results_cell_row rfl _ _ w.heap.size 33 _ (0, 0) _ rfl rf Tryz.underlying33 rfl (by kernel_rfl)) rfl ?_
      refine ⟨_, _, _, _, _, _, rfl, fun W hk hz hg => ?_, bf⟩
      have sn := (on5.isSlc (show 0 < 5 by omega)).keep (w' := W) (fun k h => hk k (by omega) h.2) (fun k h => h)
      have si := (oi5.isSlc (show 0 < 3 by omega)).keep (w' := W) (fun k h => hk k (by omega) h.2) (fun k h => h)
      have so := (oo5.isSlc (show 0 < 3 by omega)).keep (w' := W) (fun k h => hk k (by omega) h.2) (fun k h => h)
      obtain ⟨A1, c1, e1, hN⟩ := ndAt_of sn h0 (fun k hk => Nat.lt_of_lt_of_le hk.2 hz)
      obtain ⟨A2, c2, e2, hI⟩ := vlAt_of (ns := [⟨#[120]⟩]) (x := (x : Int)) si (by decide) (fun k hk => Nat.lt_of_lt_of_le hk.2 hz)
      obtain ⟨A3, c3, e3, hO⟩ := vlAt_of (ns := ln.map (·.out)) (x := (x : Int)) (Z := fun k => w1.heap.size ≤ k ∧ k < _) (by rw [List.map_map]; exact so) (by rw [List.length_map]; exact h0) (fun k hk => Nat.lt_of_lt_of_le hk.2 hz)
      cases e1
      cases e2
      simp only [Value.slice.injEq] at e3
      obtain ⟨rfl, -, -⟩ := e3
      exact ⟨HL.out.1, hg, by omega, by omega, hN, hI, hO⟩
end Go.Proofs.YtbilddeepnnogaaGreatDoor
end
