import Derived.Test.YtbilddeepnnogaaGreatDoorJgm
set_option linter.unusedVariables false
set_option linter.unusedSimpArgs false
/- Pieces: a part of a tensor, as a row; a part of what a node makes. -/
section
set_option linter.unusedVariables false
set_option maxRecDepth 100000
namespace Go.Proofs.YtbilddeepnnogaaGreatDoor
open Go.RowKit Go.Shelf

/-- The numbers from lo to hi. -/
def seg (ds : List Int) (lo hi : Nat) : List Int := (ds.drop lo).take (hi - lo)
theorem seg_len {ds : List Int} {lo hi : Nat} (h : hi ≤ ds.length) : (seg ds lo hi).length = hi - lo := by
  unfold seg
  rw [List.length_take, List.length_drop]
  omega
theorem seg_get {ds : List Int} {lo hi j : Nat} {d : Int} (h : (seg ds lo hi)[j]? = some d) : ds[lo + j]? = some d := by
  unfold seg at h
  have hj := (List.getElem?_eq_some_iff.1 h).1
  rw [List.length_take] at hj
  rw [List.getElem?_take, if_pos (by omega), List.getElem?_drop] at h
  exact h
theorem seg_mem {ds : List Int} {lo hi : Nat} {d : Int} (h : d ∈ seg ds lo hi) : d ∈ ds := by
  unfold seg at h
  exact List.mem_of_mem_drop (List.mem_of_mem_take h)
set_option maxHeartbeats 3200000 in
theorem cut_any (Ad At Bd : Option Addr) (cd ct cb x lo hi : Nat) (ds : List Int) (w : World) (h : TnOk w Ad At x ds) (hb : One w Bd x) (h1 : lo < hi) (h2 : hi ≤ x) :
    Calls Tryz.prog 155 #[.agg #[.int .i64 6, .slice Ad 1 cd, .slice At x ct], .slice Bd 1 cb, .int .i64 lo, .int .i64 hi] w fun e w' => ∃ g1 c1 g c2, e = .returned (.agg #[.int .i64 6, .slice (some ⟨g1, 0, none⟩) 1 c1, .slice (some ⟨g, lo, none⟩) (hi - lo) c2]) ∧ TnOk w' (some ⟨g1, 0, none⟩) (some ⟨g, lo, none⟩) (hi - lo) (seg ds lo hi) ∧ w.heap.size ≤ g1 ∧ w.heap.size ≤ g ∧ Since w w' := by
  have H := Lib.hid h
  have HB := Lib.hid hb
  obtain ⟨hl, hx1, hx2, -, -, -⟩ := h
  clear hb
  go_enter Tryz.func155, Tryz.ntmps155
  go_wp2_with fail
  refine newX2 (F := fun W => Calls _ _ _ W _) ?_
  intro w1 h1x
  have HX1 := Lib.hid h1x
  clear h1x
  refine (whole_any Ad cd x w1 (H.out.dim.below HX1.out.below) (by omega) (by omega)).mono ?_
  rintro e w6 ⟨A1, A2, c1, rfl, hO1, hO2, hs6⟩
  have z6 : w.heap.size + 1 < w6.heap.size := by have := (HX1.out.all hs6).size; simp at this; omega
  have z6' : w.heap.size < w6.heap.size := by omega
  have HX6 := Lib.hid (HX1.out.all hs6)
  clear hs6
  go_wp2_with fail
  refine (vspread_any A1 A2 Bd c1 1 cb x (w6.alloc (.cells #[.int .i64 0, .slice A1 1 c1, .slice A2 1 1] 318)) (hO1.below (below_new _ _)) (hO2.below (below_new _ _)) (HB.out.below (Since.al HX6.out.below _)) (by omega) (by omega)).mono ?_
  rintro e w7 ⟨A3, A4, c3, c4, rfl, hO3, hO4, hs7⟩
  have hg7 := hs7.nw
  have n3 := hO3.off hg7 (fun i => by rcases i with _ | _ | _ | i <;> simp; omega)
  have n4 := hO4.off hg7 (fun i => by rcases i with _ | _ | _ | i <;> simp)
  have hs67 : Since w6 w7 := Below.trans (below_new _ _) (Below.mono hs7 (by simp))
  have HX7 := Lib.hid (HX6.out.all hs67)
  obtain ⟨v0, v1, v2, e0, e1, e2⟩ := cells3 hg7
  obtain ⟨x0, x1, x2, -⟩ := cells3 (HX7.out.b0 rfl)
  have z67 : w6.heap.size < w7.heap.size := by have := hs7.size; simp at this; omega
  clear hs7 hs67 hO1 hO2
  go_wp2_with fail
  refine put3 (F := fun W => Calls _ _ _ W _) hg7 ?_
  intro w8 g8 hk8 hb8 hz8
  have hx8 := HX7.out.later (hb8.mono (by show w.heap.size + 2 ≤ _; omega))
  refine (read_any A3 A4 At c3 c4 ct x ds w8 (hO3.turn n3 hk8 hz8) (hO4.turn n4 hk8 hz8) (H.out.nums.since hx8.below) hl (by omega) (by omega)).mono ?_
  rintro e w9 ⟨g9, c9, rfl, l9, u9, m9, hn9, hs9⟩
  have HX9 := Lib.hid (hx8.all hs9)
  have hb44 := HX9.out.b1 rfl
  obtain ⟨x0, x1, x2, -⟩ := cells3 (HX9.out.b0 rfl)
  obtain ⟨b0, b1, b2, f0, f1, f2⟩ := cells3 hb44
  have HN9 := Lib.hid hn9
  clear hx8 hs9 hn9 g8 hk8 hb8 v0 v1 v2 e0 e1 e2 hg7 n3 n4 hO3 hO4
  have z9 : w.heap.size + 1 < w9.heap.size := by have := HX9.out.size; simp at this; omega
  have z9' : w.heap.size < w9.heap.size := by omega
  have k1 : hi ≤ c9 := by omega
  have k2 : lo ≤ hi := by omega
  have k3 : ¬ hi = lo := by omega
  go_wp2_with fail
  go_region
  refine put3 (F := fun W => Exit.then _ _ _ _ ((W.alloc _).drew)) hb44 ?_
  intro w5 g5 hk5 hb5 hz5
  have hs5 : Since w5 (w5.alloc (.cells #[.int .i64 (hi - lo)] 3)).drew := ((Since.refl w5).al _).dr
  have hn : (w5.alloc (.cells #[.int .i64 ((hi : Int) - lo)] 3)).heap[w5.heap.size]? = some (.cells #[.int .i64 (hi - lo)] 3 (0, 0)) := heap_alloc_new w5 _
  have hg := hs5.kp g5
  have hnn : (w5.alloc (.cells #[.int .i64 ((hi : Int) - lo)] 3)).drew.cell? ⟨w9.heap.size, 0, none⟩ = some (.int .i64 ((hi - lo : Nat) : Int)) := by
    rw [← hz5, show (((hi - lo : Nat) : Int)) = (hi : Int) - lo by omega]
    exact cell_of_row _ _ 0 _ 3 (0, 0) hn
  have hzz : w9.heap.size < (w5.alloc (.cells #[.int .i64 ((hi : Int) - lo)] 3)).drew.heap.size := by
    show _ < (w5.alloc (.cells #[.int .i64 ((hi : Int) - lo)] 3)).heap.size
    rw [World.size_alloc]; omega
  have hfin : Since w (w5.alloc (.cells #[.int .i64 ((hi : Int) - lo)] 3)).drew := Below.trans (Below.trans HX9.out.below (hb5.mono (by omega))) (Below.mono hs5 (by have := HX9.out.below.size; omega))
  generalize (w5.alloc (.cells #[.int .i64 ((hi : Int) - lo)] 3)).drew = wf at hs5 hg hnn hzz hfin ⊢
  go_wp2_with fail
  refine bodyPost_ret (results_cell_row rfl _ _ (w.heap.size + 1) 44 _ (0, 0) _ rfl hg Tryz.underlying44 rfl (by kernel_rfl)) rfl ?_
  refine ⟨_, _, _, _, rfl, ⟨seg_len (by omega), by omega, by omega, ⟨_, _, rfl, hzz, hnn⟩, fun j d hj => ⟨g9, lo, rfl, ?_⟩, fun d hd => H.out.sm d (seg_mem hd)⟩, by omega, by have := HX9.out.below.size; omega, hfin⟩
  obtain ⟨b', o', e', q'⟩ := HN9.out (lo + j) d (seg_get hj)
  cases e'
  rw [Nat.zero_add] at q'
  exact ((hs5.cell (p := ⟨g9, lo + j, none⟩) (by show g9 < _; omega)).trans (World.cell?_of_block (a := ⟨g9, lo + j, none⟩) (hk5 g9 (by omega)))).trans q'
end Go.Proofs.YtbilddeepnnogaaGreatDoor
end
/- Pieces: a part of what a node makes. -/
section
set_option linter.unusedVariables false
set_option maxRecDepth 100000
namespace Go.Proofs.YtbilddeepnnogaaGreatDoor
open Go.RowKit Go.Shelf

theorem Tryz.info44 : (Tryz.prog.info? 44).map (fun i => (i.zero, i.size, i.bytes)) = some (some (.agg #[.int .i64 0, .slice none 0 0, .slice none 0 0]), 3, 56) := by kernel_rfl
theorem make_tens (n : Nat) (hn : n ≤ 1000) (w : World) : (Instr.makeSlice 38 (.int .i64 (n : Int)) (.int .i64 (n : Int))).run Tryz.prog w = .ok (.slice (some ⟨w.heap.size, 0, none⟩) n n) (w.alloc (.cells (madeCells #[.int .i64 0, .slice none 0 0, .slice none 0 0] (n * 3)) 44)) := by
  obtain ⟨i, hi, hz, hs, hb⟩ := info_parts Tryz.info44
  have hr := run_make (P := Tryz.prog) w 38 44 i _ Tryz.underlying38 hi hz .i64 .i64 n n (by omega) (Int.le_refl _) (by rw [hb]; omega) (by omega)
  simp only [Int.toNat_natCast, hs, Value.cells] at hr
  exact hr
/-- A row of tensors, i of m of them laid. -/
structure RwSt (wr : World) (gs i m n : Nat) (es : List Int) : Prop where
  lt : gs < wr.heap.size
  here : ∀ j, j < m * 3 → ∃ u, wr.cell? ⟨gs, j, none⟩ = some u
  fz : ∀ j, wr.frozen? ⟨gs, j, none⟩ = false
  done : ∀ j, j < i → ∃ g1 c1 g2 o2 c2, wr.cell? ⟨gs, j * 3, none⟩ = some (.int .i64 6) ∧ wr.cell? ⟨gs, j * 3 + 1, none⟩ = some (.slice (some ⟨g1, 0, none⟩) 1 c1) ∧ wr.cell? ⟨gs, j * 3 + 2, none⟩ = some (.slice (some ⟨g2, o2, none⟩) n c2) ∧ gs < g1 ∧ gs < g2 ∧ TnOk wr (some ⟨g1, 0, none⟩) (some ⟨g2, o2, none⟩) n es
section
variable {wr w' : World} {gs i m n : Nat} {es : List Int}
theorem RwSt.since (h : RwSt wr gs i m n es) (hs : Since wr w') : RwSt w' gs i m n es :=
  ⟨Nat.lt_of_lt_of_le h.lt hs.size, fun j hj => by
    obtain ⟨u, hu⟩ := h.here j hj
    exact ⟨u, (hs.cell (p := ⟨gs, j, none⟩) h.lt).trans hu⟩, fun j => (hs.frozen (p := ⟨gs, j, none⟩) h.lt).trans (h.fz j), fun j hj => by
    obtain ⟨g1, c1, g2, o2, c2, q0, q1, q2, q3, q4, q5⟩ := h.done j hj
    exact ⟨g1, c1, g2, o2, c2, (hs.cell (p := ⟨gs, _, none⟩) h.lt).trans q0, (hs.cell (p := ⟨gs, _, none⟩) h.lt).trans q1, (hs.cell (p := ⟨gs, _, none⟩) h.lt).trans q2, q3, q4, q5.since hs⟩⟩
theorem TnOk.turn {g1 g2 o2 : Nat} (h : TnOk wr (some ⟨g1, 0, none⟩) (some ⟨g2, o2, none⟩) n es) (h1 : g1 ≠ gs) (h2 : g2 ≠ gs) (hk : ∀ j, j ≠ gs → w'.heap[j]? = wr.heap[j]?) (hz : w'.heap.size = wr.heap.size) : TnOk w' (some ⟨g1, 0, none⟩) (some ⟨g2, o2, none⟩) n es :=
  ⟨h.len, h.lo, h.hi, h.dim.turn (fun b off e => by cases e; exact h1) hk hz, fun j d hj => by
    obtain ⟨b, off, e, q⟩ := h.nums j d hj
    cases e
    exact ⟨g2, o2, rfl, (World.cell?_of_block (a := ⟨g2, o2 + j, none⟩) (hk g2 h2)).trans q⟩, h.sm⟩
theorem RwSt.put (h : RwSt wr gs i m n es) (hi : i < m) {g1 c1 g2 o2 c2 : Nat} (q1 : gs < g1) (q2 : gs < g2) (q3 : TnOk wr (some ⟨g1, 0, none⟩) (some ⟨g2, o2, none⟩) n es) : RwSt (((wr.setCell ⟨gs, i * 3, none⟩ (.int .i64 6)).setCell ⟨gs, i * 3 + 1, none⟩ (.slice (some ⟨g1, 0, none⟩) 1 c1)).setCell ⟨gs, i * 3 + 2, none⟩ (.slice (some ⟨g2, o2, none⟩) n c2)) gs (i + 1) m n es := by
  have near : ∀ (W : World) (k j : Nat) (u : Value), j ≠ k → (W.setCell ⟨gs, k, none⟩ u).cell? ⟨gs, j, none⟩ = W.cell? ⟨gs, j, none⟩ := fun W k j u hj => World.cell?_setCell_other _ _ _ _ (fun e => hj (by injection e with _ e2 _; exact e2.symm))
  have same : ∀ (W : World) (k : Nat) (u : Value), (W.cell? ⟨gs, k, none⟩).isSome → (W.setCell ⟨gs, k, none⟩ u).cell? ⟨gs, k, none⟩ = some u := fun W k u h => World.cell?_setCell_same' _ _ _ h
  have some_ : ∀ j, j < m * 3 → (wr.cell? ⟨gs, j, none⟩).isSome := fun j hj => by
    obtain ⟨u, hu⟩ := h.here j hj
    rw [hu]; rfl
  have c2' : (((wr.setCell ⟨gs, i * 3, none⟩ (.int .i64 6)).setCell ⟨gs, i * 3 + 1, none⟩ (.slice (some ⟨g1, 0, none⟩) 1 c1)).setCell ⟨gs, i * 3 + 2, none⟩ (.slice (some ⟨g2, o2, none⟩) n c2)).cell? ⟨gs, i * 3 + 2, none⟩ = some (.slice (some ⟨g2, o2, none⟩) n c2) := same _ _ _ (by rw [near _ _ _ _ (by omega), near _ _ _ _ (by omega)]; exact some_ _ (by omega))
  have c1' : (((wr.setCell ⟨gs, i * 3, none⟩ (.int .i64 6)).setCell ⟨gs, i * 3 + 1, none⟩ (.slice (some ⟨g1, 0, none⟩) 1 c1)).setCell ⟨gs, i * 3 + 2, none⟩ (.slice (some ⟨g2, o2, none⟩) n c2)).cell? ⟨gs, i * 3 + 1, none⟩ = some (.slice (some ⟨g1, 0, none⟩) 1 c1) := by
    rw [near _ _ _ _ (by omega)]
    exact same _ _ _ (by rw [near _ _ _ _ (by omega)]; exact some_ _ (by omega))
  have c0' : (((wr.setCell ⟨gs, i * 3, none⟩ (.int .i64 6)).setCell ⟨gs, i * 3 + 1, none⟩ (.slice (some ⟨g1, 0, none⟩) 1 c1)).setCell ⟨gs, i * 3 + 2, none⟩ (.slice (some ⟨g2, o2, none⟩) n c2)).cell? ⟨gs, i * 3, none⟩ = some (.int .i64 6) := by
    rw [near _ _ _ _ (by omega), near _ _ _ _ (by omega)]
    exact same _ _ _ (some_ _ (by omega))
  have far : ∀ j, j ≠ i * 3 → j ≠ i * 3 + 1 → j ≠ i * 3 + 2 → (((wr.setCell ⟨gs, i * 3, none⟩ (.int .i64 6)).setCell ⟨gs, i * 3 + 1, none⟩ (.slice (some ⟨g1, 0, none⟩) 1 c1)).setCell ⟨gs, i * 3 + 2, none⟩ (.slice (some ⟨g2, o2, none⟩) n c2)).cell? ⟨gs, j, none⟩ = wr.cell? ⟨gs, j, none⟩ := fun j h0 h1 h2 => by rw [near _ _ _ _ h2, near _ _ _ _ h1, near _ _ _ _ h0]
  have hk : ∀ j, j ≠ gs → (((wr.setCell ⟨gs, i * 3, none⟩ (.int .i64 6)).setCell ⟨gs, i * 3 + 1, none⟩ (.slice (some ⟨g1, 0, none⟩) 1 c1)).setCell ⟨gs, i * 3 + 2, none⟩ (.slice (some ⟨g2, o2, none⟩) n c2)).heap[j]? = wr.heap[j]? := fun j hj => (Below.heap_setCell _ _ _ _ hj).trans ((Below.heap_setCell _ _ _ _ hj).trans (Below.heap_setCell _ _ _ _ hj))
  have hf : ∀ j, (((wr.setCell ⟨gs, i * 3, none⟩ (.int .i64 6)).setCell ⟨gs, i * 3 + 1, none⟩ (.slice (some ⟨g1, 0, none⟩) 1 c1)).setCell ⟨gs, i * 3 + 2, none⟩ (.slice (some ⟨g2, o2, none⟩) n c2)).frozen? ⟨gs, j, none⟩ = false := fun j => by rw [World.frozen?_setCell, World.frozen?_setCell, World.frozen?_setCell]; exact h.fz j
  have hz : (((wr.setCell ⟨gs, i * 3, none⟩ (.int .i64 6)).setCell ⟨gs, i * 3 + 1, none⟩ (.slice (some ⟨g1, 0, none⟩) 1 c1)).setCell ⟨gs, i * 3 + 2, none⟩ (.slice (some ⟨g2, o2, none⟩) n c2)).heap.size = wr.heap.size := by simp [World.setCell]
  generalize ((wr.setCell ⟨gs, i * 3, none⟩ (.int .i64 6)).setCell ⟨gs, i * 3 + 1, none⟩ (.slice (some ⟨g1, 0, none⟩) 1 c1)).setCell ⟨gs, i * 3 + 2, none⟩ (.slice (some ⟨g2, o2, none⟩) n c2) = W at c0' c1' c2' far hk hf hz ⊢
  refine ⟨by rw [hz]; exact h.lt, fun j hj => ?_, hf, fun j hj => ?_⟩
  · by_cases e0 : j = i * 3
    · subst e0; exact ⟨_, c0'⟩
    by_cases e1 : j = i * 3 + 1
    · subst e1; exact ⟨_, c1'⟩
    by_cases e2 : j = i * 3 + 2
    · subst e2; exact ⟨_, c2'⟩
    rw [far j e0 e1 e2]
    exact h.here j hj
  · by_cases e : j = i
    · subst e
      exact ⟨g1, c1, g2, o2, c2, c0', c1', c2', q1, q2, q3.turn (by omega) (by omega) hk hz⟩
    · obtain ⟨g1', c1', g2', o2', c2', p0, p1, p2, p3, p4, p5⟩ := h.done j (by omega)
      exact ⟨g1', c1', g2', o2', c2', (far _ (by omega) (by omega) (by omega)).trans p0, (far _ (by omega) (by omega) (by omega)).trans p1, (far _ (by omega) (by omega) (by omega)).trans p2, p3, p4, p5.turn (by omega) (by omega) hk hz⟩
theorem RwSt.made (w : World) (m n : Nat) (es : List Int) : RwSt (w.alloc (.cells (madeCells #[.int .i64 0, .slice none 0 0, .slice none 0 0] (m * 3)) 44)) w.heap.size 0 m n es :=
  ⟨by simp, fun j hj => ⟨_, (cell_of_row _ _ j _ 44 (0, 0) (heap_alloc_new w _)).trans (Array.getElem?_eq_getElem (by rw [size_madeCells]; exact hj))⟩, fun j => frozen_row (heap_alloc_new w _) j, fun j hj => by omega⟩
theorem RwSt.tns {gs m n : Nat} {es : List Int} (h : RwSt wr gs m m n es) : Tns wr (some ⟨gs, 0, none⟩) m n es := ⟨gs, 0, rfl, h.lt, fun j hj => by
  obtain ⟨g1, c1, g2, o2, c2, q0, q1, q2, -, -, q5⟩ := h.done j hj
  exact ⟨_, c1, _, c2, by simpa using q0, by simpa using q1, by simpa using q2, q5⟩⟩
end
set_option maxHeartbeats 6400000 in
theorem part_any (op nm out : ByteArray) (A B : Option Addr) (m c d x lo hi : Nat) (ds : List Int) (w : World) (hg : Gl w) (hx : Xs w A m) (ht : Tns w B m x ds) (ho : NdOp op m) (hout : (out.toList == []) = false) (hl : ds.length = x) (hx2 : x ≤ 30) (hsm : ∀ y ∈ ds, Sm y) (h1 : lo < hi) (h2 : hi ≤ x) :
    Calls Tryz.prog 82 #[.agg #[.string op, .string nm, .slice A m c, .string out, .slice none 0 0], .slice B m d, .int .i64 lo, .int .i64 hi] w fun e w' => ∃ g c', e = .returned (.tuple #[.slice (some ⟨g, 0, none⟩) (hi - lo) c', .int .i64 0]) ∧ Nums w' (some ⟨g, 0, none⟩) ((seg ds lo hi).map (opV op)) ∧ Since w w' := by
  have HG := Lib.hid hg
  have HX := Lib.hid hx
  have HT := Lib.hid ht
  have HO := Lib.hid ho
  have HSM := Lib.hid hsm
  have hmm := make_tens m (by have := ho.cases; omega)
  have hbp := byPlace_any op m ho
  have hm2 := ho.cases
  have k1 : ¬ (lo : Int) < 0 := by omega
  have k2 : ¬ (x : Int) < hi := by omega
  have k3 : ¬ (hi : Int) ≤ lo := by omega
  clear hg hx ht ho hsm
  go_enter Tryz.func82, Tryz.ntmps82
  go_wp2_with fail
  refine newX (F := fun W => Calls _ _ _ W _) ?_
  intro w1 h1x
  have HX1 := Lib.hid h1x
  clear h1x
  refine (begin153_any op nm out A B m c d x ds w1 (HG.out.below HX1.out.below) (HX.out.below HX1.out.below) (HT.out.since HX1.out.below) HO.out hout (by omega) hx2).mono ?_
  rintro e w2 ⟨D, cD, rfl, hD, hs2⟩
  have HX2 := Lib.hid (HX1.out.all hs2)
  have z2 : w.heap.size < w2.heap.size := HX2.out.size
  obtain ⟨r0, r1, r2, r3, r4, -⟩ := cells5 (HX2.out.b0 rfl)
  have hC := count1_any (w2.alloc (.cells #[.string out, .int .i64 6, .slice D 1 cD] 28)) D cD x (hD.below (below_new _ _)) (by omega) (by omega)
  have HD := Lib.hid hD
  clear hD hs2
  go_wp2_with (first | (go_at_call 42; refine hC.mono ?_; rintro e w3 ⟨rfl, rfl⟩) | (go_at_call 154; refine (hbp _).mono ?_; rintro e w3 ⟨rfl, rfl⟩))
  have hy := fx1 w2 (.cells #[.string out, .int .i64 6, .slice D 1 cD] 28)
  have hrw := RwSt.made (w2.alloc (.cells #[.string out, .int .i64 6, .slice D 1 cD] 28)) m (hi - lo) (seg ds lo hi)
  have hzb : (w2.alloc (.cells #[.string out, .int .i64 6, .slice D 1 cD] 28)).heap.size = w2.heap.size + 1 := World.size_alloc _ _
  rw [hzb] at hrw
  have hsb := below_new (w2.alloc (.cells #[.string out, .int .i64 6, .slice D 1 cD] 28)) (.cells (madeCells #[.int .i64 0, .slice none 0 0, .slice none 0 0] (m * 3)) 44)
  generalize w2.alloc (.cells #[.string out, .int .i64 6, .slice D 1 cD] 28) = wb at hy hrw hsb hzb ⊢
  generalize wb.alloc (.cells (madeCells #[.int .i64 0, .slice none 0 0, .slice none 0 0] (m * 3)) 44) = w5 at hrw hsb ⊢
  have HY := Lib.hid hy
  have HRW := Lib.hid hrw
  have HSB := Lib.hid hsb
  have zb : w2.heap.size < wb.heap.size := hy.size
  clear hy hrw hsb r0 r1 r2 r3 r4 hC
  go_loopw [55] (fun i wr => ∃ k : Nat, k ≤ m ∧ i = .int .i64 k ∧ Below wb.heap.size wb wr ∧ RwSt wr (w2.heap.size + 1) k m (hi - lo) (seg ds lo hi)) (fun i _ => m - (intOf i).toNat)
  case atStart => exact ⟨0, by omega, rfl, HSB.out, HRW.out⟩
  case round =>
    obtain ⟨k, hk, rfl, hbr, hrw⟩ := hrel
    have hs2r : Since w2 wr := Below.trans HY.out.below (Below.mono hbr (by omega))
    have hsr : Since w wr := Below.trans HX2.out.below (Below.mono hs2r (by omega))
    by_cases hlt : k < m
    · obtain ⟨b, off, hBe, hb, hc⟩ := HT.out
      subst hBe
      obtain ⟨Ad, cd, At, ct, q0, q1, q2, q3⟩ := hc k hlt
      have q0 := (hsr.cell (p := ⟨b, _, none⟩) hb).trans q0
      have q1 := (hsr.cell (p := ⟨b, _, none⟩) hb).trans q1
      have q2 := (hsr.cell (p := ⟨b, _, none⟩) hb).trans q2
      have hbr' : b < wr.heap.size := by have := hsr.size; omega
      have hki : (k : Int) < m := by omega
      obtain ⟨y0, y1, y2, -⟩ := cells3 ((hbr.block _ zb).trans (HY.out.b0 rfl))
      have zr : w2.heap.size < wr.heap.size := by have := hbr.size; omega
      have hC := cut_any Ad At D cd ct cD x lo hi ds (wr.alloc (.cells #[.int .i64 6, .slice Ad 1 cd, .slice At x ct] 44)) (q3.since (hsr.al _)) (HD.out.below (hs2r.al _)) h1 h2
      have HBR := Lib.hid hbr
      have HRWK := Lib.hid hrw
      clear hc q3 hs2r hsr hbr hrw hb
      go_wp2_with fail
      refine hC.mono ?_
      rintro e w7 ⟨g1, c1, g2, c2, rfl, hT7, l1, l2, hs7⟩
      have hs17 : Since wr w7 := Below.trans (below_new _ _) (Below.mono hs7 (by simp))
      have hr7 := HRWK.out.since hs17
      obtain ⟨u0, p0⟩ := hr7.here (k * 3) (by omega)
      obtain ⟨u1, p1⟩ := hr7.here (k * 3 + 1) (by omega)
      obtain ⟨u2, p2⟩ := hr7.here (k * 3 + 2) (by omega)
      have f0 := hr7.fz (k * 3)
      have f1 := hr7.fz (k * 3 + 1)
      have f2 := hr7.fz (k * 3 + 2)
      rw [World.size_alloc] at l1 l2
      have hlr := HRWK.out.lt
      have HR7 := Lib.hid hr7
      have HT7 := Lib.hid hT7
      have HS17 := Lib.hid hs17
      clear hs7 hs17 hr7 hT7 hC y0 y1 y2
      go_wp2_with fail
      exact ⟨⟨k + 1, by omega, by go_num, (((Below.trans HBR.out (Below.mono HS17.out (by omega))).setCell (Nat.le_of_eq hzb) _).setCell (Nat.le_of_eq hzb) _).setCell (Nat.le_of_eq hzb) _, HR7.out.put hlt (by omega) (by omega) HT7.out⟩, by simp [intOf]; omega⟩
    · obtain rfl : k = m := by omega
      obtain ⟨r0, r1, r2, r3, r4, -⟩ := cells5 (hs2r.kp (HX2.out.b0 rfl))
      have hS := semDo_any op nm out A (some ⟨w2.heap.size + 1, 0, none⟩) k c k (hi - lo) (seg ds lo hi) wr (HG.out.below hsr) (HX.out.below hsr) hrw.tns HO.out hout (seg_len (by omega)) (by omega) (by omega) (fun y hy => HSM.out y (seg_mem hy))
      have HSR := Lib.hid hsr
      clear hbr hrw hs2r hsr hlt
      go_wp2_with fail
      refine hS.mono ?_
      rintro e w8 ⟨D8, k8, g8, c8, rfl, ht8, hc8, hs8⟩
      have HT8 := Lib.hid ht8
      have HS8 := Lib.hid hs8
      clear ht8 hs8 r0 r1 r2 r3 r4 hS
      go_wp2_with fail
      go_ret2
      exact ⟨_, _, rfl, fun j d hj => ⟨g8, 0, rfl, by rw [Nat.zero_add]; exact ((below_new w8 _).cell (p := ⟨g8, j, none⟩) HT8.out.lt).trans (HT8.out.data j d hj)⟩, (HSR.out.trans HS8.out).al _⟩
end Go.Proofs.YtbilddeepnnogaaGreatDoor
end
