import Derived.Test.YtbilddeepnnogaaGreatDoorJd
import Derived.Test.YtbilddeepnnogaaGreatDoorJem
import Derived.Test.YtbilddeepnnogaaGreatDoorFem
import Derived.Test.YtbilddeepnnogaaGreatDoorMam
import Derived.Laws.EntriesVeiled
set_option linter.unusedVariables false
set_option linter.unusedSimpArgs false
/- Pieces: what a node makes, element by element. -/
section
set_option linter.unusedVariables false
set_option maxRecDepth 100000
namespace Go.Proofs.YtbilddeepnnogaaGreatDoor
open Go.RowKit Go.Shelf

/-- A tensor that a call has made: its dimensions at D, its elements in block g. -/
structure TnX (w : World) (base : Nat) (D : Option Addr) (g x : Nat) (rs : List Int) : Prop where
  len : rs.length = x
  dim : One w D x
  lo : base ≤ g
  lt : g < w.heap.size
  data : ∀ j d, rs[j]? = some d → w.cell? ⟨g, j, none⟩ = some (.int .i64 d)
  fz : ∀ j, w.frozen? ⟨g, j, none⟩ = false
  ne : ∀ b off, D = some ⟨b, off, none⟩ → b ≠ g
theorem make_sls (n : Nat) (hn : n ≤ 1000) (w : World) : (Instr.makeSlice 337 (.int .i64 (n : Int)) (.int .i64 (n : Int))).run Tryz.prog w = .ok (.slice (some ⟨w.heap.size, 0, none⟩) n n) (w.alloc (.cells (madeCells #[.slice none 0 0] n) 22)) :=
  run_make_row' (P := Tryz.prog) 337 22 (.slice none 0 0) 24 Tryz.underlying337 (by kernel_rfl) rfl .i64 .i64 n (by omega) (by omega) w
theorem make_i64s (n : Nat) (hn : n ≤ 1000) (w : World) : (Instr.makeSlice 22 (.int .i64 (n : Int)) (.int .i64 (n : Int))).run Tryz.prog w = .ok (.slice (some ⟨w.heap.size, 0, none⟩) n n) (w.alloc (.cells (madeCells #[.int .i64 0] n) 2)) :=
  run_make_row' (P := Tryz.prog) 22 2 (.int .i64 0) 8 Tryz.underlying22 (by kernel_rfl) rfl .i64 .i64 n (by omega) (by omega) w
/-- The data spread, i of m. -/
structure SpSt (wr : World) (gs i m x : Nat) (ds : List Int) : Prop where
  lt : gs < wr.heap.size
  here : ∀ j, j < m → ∃ u, wr.cell? ⟨gs, j, none⟩ = some u
  fz : ∀ j, wr.frozen? ⟨gs, j, none⟩ = false
  done : ∀ j, j < i → ∃ g c, wr.cell? ⟨gs, j, none⟩ = some (.slice (some ⟨g, 0, none⟩) x c) ∧ gs < g ∧ Nums wr (some ⟨g, 0, none⟩) ds
section
variable {wr w' : World} {gs i m x : Nat} {ds : List Int}
theorem SpSt.since (h : SpSt wr gs i m x ds) (hs : Since wr w') : SpSt w' gs i m x ds :=
  ⟨Nat.lt_of_lt_of_le h.lt hs.size, fun j hj => by
    obtain ⟨u, hu⟩ := h.here j hj
    exact ⟨u, (hs.cell (p := ⟨gs, j, none⟩) h.lt).trans hu⟩, fun j => (hs.frozen (p := ⟨gs, j, none⟩) h.lt).trans (h.fz j), fun j hj => by
    obtain ⟨g, c, h1, h2, h3⟩ := h.done j hj
    exact ⟨g, c, (hs.cell (p := ⟨gs, j, none⟩) h.lt).trans h1, h2, h3.since hs⟩⟩
theorem Nums.set {g : Nat} (h : Nums wr (some ⟨g, 0, none⟩) ds) {p : Addr} (hp : p.block ≠ g) (u : Value) : Nums (wr.setCell p u) (some ⟨g, 0, none⟩) ds := by
  intro j d hj
  obtain ⟨b, off, e, q⟩ := h j d hj
  cases e
  exact ⟨g, 0, rfl, (World.cell?_of_block (a := ⟨g, 0 + j, none⟩) (Below.heap_setCell _ _ _ _ (fun e => hp e.symm))).trans q⟩
theorem SpSt.put (h : SpSt wr gs i m x ds) (hi : i < m) {g c : Nat} (hg : gs < g) (hn : Nums wr (some ⟨g, 0, none⟩) ds) : SpSt (wr.setCell ⟨gs, i, none⟩ (.slice (some ⟨g, 0, none⟩) x c)) gs (i + 1) m x ds := by
  have near : ∀ j, j ≠ i → (wr.setCell ⟨gs, i, none⟩ (.slice (some ⟨g, 0, none⟩) x c)).cell? ⟨gs, j, none⟩ = wr.cell? ⟨gs, j, none⟩ := fun j hj => World.cell?_setCell_other _ _ _ _ (fun e => hj (by injection e with _ e2 _; exact e2.symm))
  have same : (wr.setCell ⟨gs, i, none⟩ (.slice (some ⟨g, 0, none⟩) x c)).cell? ⟨gs, i, none⟩ = some (.slice (some ⟨g, 0, none⟩) x c) := by
    obtain ⟨u, hu⟩ := h.here i hi
    exact World.cell?_setCell_same' _ _ _ (by rw [hu]; rfl)
  refine ⟨by simpa [World.setCell] using h.lt, fun j hj => ?_, fun j => by rw [World.frozen?_setCell]; exact h.fz j, fun j hj => ?_⟩
  · by_cases e : j = i
    · subst e; exact ⟨_, same⟩
    · obtain ⟨u, hu⟩ := h.here j hj
      exact ⟨u, (near j e).trans hu⟩
  · by_cases e : j = i
    · subst e; exact ⟨g, c, same, hg, hn.set (by show gs ≠ g; omega) _⟩
    · obtain ⟨g', c', h1, h2, h3⟩ := h.done j (by omega)
      exact ⟨g', c', (near j e).trans h1, h2, h3.set (by show gs ≠ g'; omega) _⟩
theorem SpSt.made (w : World) (m x : Nat) (ds : List Int) : SpSt (w.alloc (.cells (madeCells #[.slice none 0 0] m) 22)) w.heap.size 0 m x ds :=
  ⟨by simp, fun j hj => ⟨_, (cell_of_row _ _ j _ 22 (0, 0) (heap_alloc_new w _)).trans (made_at _ m j hj)⟩, fun j => frozen_row (heap_alloc_new w _) j, fun j hj => by omega⟩
theorem PlV.since {op : ByteArray} {fv : Value} (h : PlV wr op m fv) (hs : Since wr w') : PlV w' op m fv := by
  obtain ⟨p, q, h1, h2, h3⟩ := h
  exact ⟨p, q, (hs.cell (p := ⟨p, 0, none⟩) (World.block_lt_of_cell? wr ⟨p, 0, none⟩ h1)).trans h1, (hs.cell (p := ⟨q, 0, none⟩) (World.block_lt_of_cell? wr ⟨q, 0, none⟩ h2)).trans h2, h3⟩
/-- The row of one place's elements, i of m. -/
structure XrSt (wr : World) (g i m : Nat) (d : Int) : Prop where
  lt : g < wr.heap.size
  here : ∀ j, j < m → ∃ u, wr.cell? ⟨g, j, none⟩ = some u
  fz : ∀ j, wr.frozen? ⟨g, j, none⟩ = false
  done : Reps wr g i d
theorem XrSt.put {g : Nat} {d : Int} (h : XrSt wr g i m d) (hi : i < m) : XrSt (wr.setCell ⟨g, i, none⟩ (.int .i64 d)) g (i + 1) m d := by
  have near : ∀ j, j ≠ i → (wr.setCell ⟨g, i, none⟩ (.int .i64 d)).cell? ⟨g, j, none⟩ = wr.cell? ⟨g, j, none⟩ := fun j hj => World.cell?_setCell_other _ _ _ _ (fun e => hj (by injection e with _ e2 _; exact e2.symm))
  have same : (wr.setCell ⟨g, i, none⟩ (.int .i64 d)).cell? ⟨g, i, none⟩ = some (.int .i64 d) := by
    obtain ⟨u, hu⟩ := h.here i hi
    exact World.cell?_setCell_same' _ _ _ (by rw [hu]; rfl)
  refine ⟨by simpa [World.setCell] using h.lt, fun j hj => ?_, fun j => by rw [World.frozen?_setCell]; exact h.fz j, fun j hj => ?_⟩
  · by_cases e : j = i
    · subst e; exact ⟨_, same⟩
    · obtain ⟨u, hu⟩ := h.here j hj
      exact ⟨u, (near j e).trans hu⟩
  · by_cases e : j = i
    · subst e; exact same
    · exact (near j e).trans (h.done j (by omega))
theorem XrSt.keep {g : Nat} {d : Int} (h : XrSt wr g i m d) (hk : w'.heap[g]? = wr.heap[g]?) : XrSt w' g i m d := by
  have hl : g < w'.heap.size := (Array.getElem?_eq_some_iff.1 (hk.trans (Array.getElem?_eq_getElem h.lt))).1
  have ce : ∀ j, w'.cell? ⟨g, j, none⟩ = wr.cell? ⟨g, j, none⟩ := fun j => World.cell?_of_block (a := ⟨g, j, none⟩) hk
  exact ⟨hl, fun j hj => by obtain ⟨u, hu⟩ := h.here j hj; exact ⟨u, (ce j).trans hu⟩, fun j => (World.frozen?_of_block (a := ⟨g, j, none⟩) hk).trans (h.fz j), fun j hj => (ce j).trans (h.done j hj)⟩
theorem XrSt.again {g : Nat} {d : Int} (h : XrSt wr g i m d) (d' : Int) : XrSt wr g 0 m d' := ⟨h.lt, h.here, h.fz, fun j hj => by omega⟩
theorem XrSt.made (w : World) (m : Nat) (d : Int) : XrSt (w.alloc (.cells (madeCells #[.int .i64 0] m) 2)) w.heap.size 0 m d :=
  ⟨by simp, fun j hj => ⟨_, (cell_of_row _ _ j _ 2 (0, 0) (heap_alloc_new w _)).trans (made_at _ m j hj)⟩, fun j => frozen_row (heap_alloc_new w _) j, fun j hj => by omega⟩
end
set_option maxHeartbeats 6400000 in
theorem elemDo_any (op nm out : ByteArray) (A B : Option Addr) (m c d x : Nat) (ds : List Int) (w : World) (hg : Gl w) (hx : Xs w A m) (ht : Tns w B m x ds) (ho : NdOp op m) (hout : (out.toList == []) = false) (hl : ds.length = x) (hx1 : 1 ≤ x) (hx2 : x ≤ 30) (hsm : ∀ y ∈ ds, Sm y) :
    Calls Tryz.prog 174 #[.agg #[.string op, .string nm, .slice A m c, .string out, .slice none 0 0], .slice B m d] w fun e w' => ∃ D k g c', e = .returned (.tuple #[.agg #[.int .i64 6, .slice D 1 k, .slice (some ⟨g, 0, none⟩) x c'], .int .i64 0]) ∧ TnX w' w.heap.size D g x (ds.map (opV op)) ∧ x ≤ c' ∧ Since w w' := by
  have HG := Lib.hid hg
  have HX := Lib.hid hx
  have HT := Lib.hid ht
  have HO := Lib.hid ho
  have HSM := Lib.hid hsm
  have hm2 := ho.cases
  have hms := make_sls m (by omega)
  have hmx := make_i64s m (by omega)
  obtain ⟨i2, hi2⟩ : ∃ i, Tryz.prog.info? 2 = some i ∧ i.zero = some (.int .i64 0) ∧ i.size = 1 ∧ i.bytes = 8 := by
    obtain ⟨i, h1, h2, h3, h4⟩ := info_parts Tryz.info2
    exact ⟨i, h1, h2, h3, h4⟩
  have HI := Lib.hid hi2
  clear hg hx ht ho hsm hi2
  go_enter Tryz.func174, Tryz.ntmps174
  go_wp2_with fail
  refine newX2 (F := fun W => Calls _ _ _ W _) ?_
  intro w1 h1
  have HX1 := Lib.hid h1
  clear h1
  refine (begin236_any op nm out A B m c d x ds w1 (HG.out.below HX1.out.below) (HX.out.below HX1.out.below) (HT.out.since HX1.out.below) HO.out hout hx1 hx2).mono ?_
  rintro e w2 ⟨D, cD, rfl, hD, hs2⟩
  have h2 := HX1.out.all hs2
  obtain ⟨r0, r1, r2, r3, r4, -⟩ := cells5 (h2.b0 rfl)
  have z2 : w.heap.size + 1 < w2.heap.size := by have := h2.size; simp at this; omega
  have z2' : w.heap.size < w2.heap.size := by omega
  have HX2 := Lib.hid h2
  have HD := Lib.hid hD
  clear h2 hD
  go_wp2_with fail
  refine newX (F := fun W => Calls _ _ _ W _) ?_
  intro w3 h3
  have h23 := HX2.out.all h3.below
  have HX3 := Lib.hid h23
  have HY3 := Lib.hid h3
  clear h3 h23 r0 r1 r2 r3 r4
  refine (placed_any op nm out A B m c d x ds w3 (HT.out.since HX3.out.below) HO.out).mono ?_
  rintro e w4 ⟨fv, rfl, hfv, hs4⟩
  have HX4 := Lib.hid (HX3.out.all hs4)
  have HY4 := Lib.hid (HY3.out.all hs4)
  have HV4 := Lib.hid hfv
  clear hfv hs4
  go_wp2_with fail
  have hsp := SpSt.made w4 m x ds
  have hb5 := below_new w4 (.cells (madeCells #[.slice none 0 0] m) 22)
  generalize w4.alloc (.cells (madeCells #[.slice none 0 0] m) 22) = w5 at hsp hb5 ⊢
  have HSP := Lib.hid hsp
  have HB5 := Lib.hid hb5
  clear hsp hb5
  have z24 : w2.heap.size < w4.heap.size := HY4.out.size
  have HD4 := Lib.hid (HD.out.below HY4.out.below)
  go_loopw [45] (fun i wr => ∃ k : Nat, k ≤ m ∧ i = .int .i64 k ∧ Below w4.heap.size w4 wr ∧ SpSt wr w4.heap.size k m x ds) (fun i _ => m - (intOf i).toNat)
  case atStart => exact ⟨0, by omega, rfl, HB5.out, HSP.out⟩
  case round =>
    obtain ⟨k, hk, rfl, hbr, hsp⟩ := hrel
    have hswr : Since w wr := Below.trans HX4.out.below (Below.mono hbr (by omega))
    have hmi : (m : Int) ≤ 2 := by omega
    have y6 := (hbr.block _ z24).trans (HY4.out.b0 rfl)
    have zwr := hbr.size
    by_cases hlt : k < m
    · obtain ⟨b, off, hBe, hb, hc⟩ := HT.out
      subst hBe
      obtain ⟨Ad, cd, At, ct, q0, q1, q2, q3⟩ := hc k hlt
      have q0 := (hswr.cell (p := ⟨b, _, none⟩) hb).trans q0
      have q1 := (hswr.cell (p := ⟨b, _, none⟩) hb).trans q1
      have q2 := (hswr.cell (p := ⟨b, _, none⟩) hb).trans q2
      have hbr' : b < wr.heap.size := by have := hswr.size; omega
      have hki : (k : Int) < m := by omega
      have hW := whole_any Ad cd x (wr.alloc (.cells #[.int .i64 6, .slice Ad 1 cd, .slice At x ct] 44)) (q3.dim.below (hswr.al _)) (by omega) (by omega)
      have HQ := Lib.hid q3
      have HSW := Lib.hid hswr
      have HBR := Lib.hid hbr
      have HSPK := Lib.hid hsp
      have HY6 := Lib.hid y6
      clear hc q3 hswr hbr hsp y6 hb
      go_wp2_with fail
      refine hW.mono ?_
      rintro e w6 ⟨A1, A2, c1, rfl, hO1, hO2, hs6⟩
      obtain ⟨x0, x1, x2, -⟩ := cells3 hs6.nw
      have hs16 : Since wr w6 := Below.trans (below_new _ _) (Below.mono hs6 (by simp))
      have z6 : wr.heap.size < w6.heap.size := by have := hs6.size; simp at this; omega
      have y6 := hs16.kp HY6.out
      obtain ⟨y0, y1, y2, -⟩ := cells3 y6
      have z26 : w2.heap.size < w6.heap.size := by omega
      have HS16 := Lib.hid hs16
      clear hs6 hs16 y6 hW
      go_wp2_with fail
      have s46 : Since w4 (w6.alloc (.cells #[.int .i64 0, .slice A1 1 c1, .slice A2 1 1] 318)) := Since.al (Below.trans HBR.out (Below.mono HS16.out (by omega))) _
      refine (vspread_any A1 A2 D c1 1 cD x (w6.alloc (.cells #[.int .i64 0, .slice A1 1 c1, .slice A2 1 1] 318)) (hO1.below (below_new _ _)) (hO2.below (below_new _ _)) (HD4.out.below s46) (by omega) (by omega)).mono ?_
      rintro e w7 ⟨A3, A4, c3, c4, rfl, hO3, hO4, hs7⟩
      have hg7 := hs7.nw
      have n3 := hO3.off hg7 (fun i => by rcases i with _ | _ | _ | i <;> simp; omega)
      have n4 := hO4.off hg7 (fun i => by rcases i with _ | _ | _ | i <;> simp)
      have hs67 : Since w6 w7 := Below.trans (below_new _ _) (Below.mono hs7 (by simp))
      have HS67 := Lib.hid hs67
      obtain ⟨v0, v1, v2, e0, e1, e2⟩ := cells3 hg7
      have z67 : w6.heap.size < w7.heap.size := by have := hs7.size; simp at this; omega
      have x2 := (hs67.cell (p := ⟨wr.heap.size, 2, none⟩) z6).trans x2
      have HOO := Lib.hid (And.intro hO3 hO4)
      clear hs7 hs67 y0 y1 y2 x0 x1 hO1 hO2 s46 hO3 hO4
      go_wp2_with fail
      refine put3 (F := fun W => Calls _ _ _ W _) hg7 ?_
      intro w8 g8 hk8 hb8 hz8
      have hs18 : Since wr w8 := Below.trans (HS16.out.trans HS67.out) (Below.mono hb8 (by omega))
      have HS18 := Lib.hid hs18
      refine (read_any A3 A4 At c3 c4 ct x ds w8 (HOO.out.1.turn n3 hk8 hz8) (HOO.out.2.turn n4 hk8 hz8) (HQ.out.nums.since (HSW.out.trans hs18)) hl (by omega) (by omega)).mono ?_
      rintro e w9 ⟨g9, c9, rfl, l9, u9, m9, hn9, hs9⟩
      have hs19 : Since wr w9 := HS18.out.trans hs9
      have hsp9 := HSPK.out.since hs19
      obtain ⟨u, hu⟩ := hsp9.here k hlt
      have hfz := hsp9.fz k
      have z89 : wr.heap.size ≤ w8.heap.size := HS18.out.size
      have hgl : w4.heap.size < g9 := by have := HSPK.out.lt; omega
      have HSP9 := Lib.hid hsp9
      have HN9 := Lib.hid hn9
      have HS19 := Lib.hid hs19
      clear hs18 hs19 hs9 hsp9 hn9 g8 hk8 hb8 hz8 v0 v1 v2 e0 e1 e2 x2 hg7 n3 n4
      go_wp2_with fail
      exact ⟨⟨k + 1, by omega, by go_num, (Below.trans HBR.out (Below.mono HS19.out (by omega))).setCell (Nat.le_refl _) _, HSP9.out.put hlt hgl HN9.out⟩, by simp [intOf]; omega⟩
    · obtain rfl : k = m := by omega
      have hm0 : 0 < k := by omega
      have hdl := hsp.done
      obtain ⟨g0, c0, q0, q1, q2⟩ := hsp.done 0 hm0
      obtain ⟨y0, y1, y2, -⟩ := cells3 y6
      have z2r : w2.heap.size < wr.heap.size := by omega
      have z4r : w4.heap.size < wr.heap.size := hsp.lt
      have hki : (0 : Int) < k := by omega
      have HSW := Lib.hid hswr
      have HBR := Lib.hid hbr
      have HSPK := Lib.hid hsp
      clear hswr hbr hsp hlt hdl q2
      rename World => wb
      go_wp2_with fail
      have hx0 := fx2 wb (.cells #[.int .i64 6, .slice D 1 cD, .slice none 0 0] 44) (.cells (madeCells #[.int .i64 0] k) 2)
      have hxr : XrSt ((wb.alloc (.cells #[.int .i64 6, .slice D 1 cD, .slice none 0 0] 44)).alloc (.cells (madeCells #[.int .i64 0] k) 2)) (wb.heap.size + 1) 0 k 0 := by
        have := XrSt.made (wb.alloc (.cells #[.int .i64 6, .slice D 1 cD, .slice none 0 0] 44)) k 0
        rwa [World.size_alloc] at this
      generalize (wb.alloc (.cells #[.int .i64 6, .slice D 1 cD, .slice none 0 0] 44)).alloc (.cells (madeCells #[.int .i64 0] k) 2) = w0 at hx0 hxr ⊢
      have HX0 := Lib.hid hx0
      have HXR := Lib.hid hxr
      have hxi : (x : Int) ≤ 30 := by omega
      clear hx0 hxr q0 q1 y0 y1 y2 z2r
      go_loopw [86] (fun i wz => ∃ t : Nat, t ≤ x ∧ i = .int .i64 t ∧ Below wb.heap.size wb wz ∧ XrSt wz (wb.heap.size + 1) 0 k 0 ∧ ∃ v, wz.heap[wb.heap.size]? = some (.cells #[.int .i64 6, .slice D 1 cD, v] 44 (0, 0)) ∧ OwnL repInt 2 wz (wb.heap.size + 2) (fun _ => False) v ((ds.take t).map (opV op))) (fun i _ => x - (intOf i).toNat)
      case atStart => exact ⟨0, by omega, rfl, HX0.out.below, HXR.out, _, HX0.out.b0 rfl, ownL_nil⟩
      case round =>
        obtain ⟨t, ht, rfl, hbz, hxz, v, hrow, hown⟩ := hrel
        rename World => wz
        by_cases hlt : t < x
        · obtain ⟨d, hd⟩ : ∃ d, ds[t]? = some d := ⟨_, List.getElem?_eq_getElem (by omega)⟩
          have hti : (t : Int) < x := by omega
          have HBZ := Lib.hid hbz
          have HROW := Lib.hid hrow
          have HOWN := Lib.hid hown
          have HXZ := Lib.hid (hxz.again d)
          have HSD := Lib.hid hd
          have hsd := HSM.out d (List.mem_of_getElem? hd)
          clear hbz hrow hown hxz hd
          go_wp2_with fail
          go_loopw [91] (fun i wy => ∃ j : Nat, j ≤ k ∧ i = .int .i64 j ∧ Only (wb.heap.size + 1) wz wy ∧ XrSt wy (wb.heap.size + 1) j k d) (fun i _ => k - (intOf i).toNat)
          case atStart => exact ⟨0, by omega, rfl, Only.refl _ _, HXZ.out⟩
          case round =>
            obtain ⟨j, hj, rfl, hoy, hxy⟩ := hrel
            rename World => wy
            have hby : Since wb wy := Below.trans HBZ.out (hoy.below (by omega) HBZ.out.size)
            by_cases hjk : j < k
            · obtain ⟨gj, cj, p0, p1, p2⟩ := (HSPK.out.since hby).done j hjk
              obtain ⟨b2, o2, e2, p3⟩ := p2 t d HSD.out
              cases e2
              rw [Nat.zero_add] at p3
              obtain ⟨u, hu⟩ := hxy.here j hjk
              have hfz := hxy.fz j
              have hji : (j : Int) < k := by omega
              have HOY := Lib.hid hoy
              have HXY := Lib.hid hxy
              clear hoy hxy hby p2
              go_wp2_with fail
              exact ⟨⟨j + 1, by omega, by go_num, HOY.out.set_ _ _, HXY.out.put hjk⟩, by simp [intOf]; omega⟩
            · obtain rfl : j = k := by omega
              have HRY := Lib.hid ((hoy.block wb.heap.size (Array.getElem?_eq_some_iff.1 HROW.out).1 (by omega)).trans HROW.out)
              have HOY := Lib.hid (HOWN.out.keep (w' := wy) (fun i hi => hoy.block i (HOWN.out.lt i hi).2 (by have := (HOWN.out.lt i hi).1; omega)) (fun _ h => h.elim) (fun _ h => h))
              have hfin : ∀ (w10 w12 : World) (v' : Value), Since wy w10 → OwnL repInt 2 w12 (wb.heap.size + 2) (fun _ => False) v' ((ds.take t).map (opV op) ++ [opV op d]) → Below (wb.heap.size + 2) w10 w12 →
                  Below wb.heap.size wb (w12.setCell ⟨wb.heap.size, 2, none⟩ v') ∧ XrSt (w12.setCell ⟨wb.heap.size, 2, none⟩ v') (wb.heap.size + 1) 0 j 0 ∧ ∃ v, (w12.setCell ⟨wb.heap.size, 2, none⟩ v').heap[wb.heap.size]? = some (.cells #[.int .i64 6, .slice D 1 cD, v] 44 (0, 0)) ∧ OwnL repInt 2 (w12.setCell ⟨wb.heap.size, 2, none⟩ v') (wb.heap.size + 2) (fun _ => False) v ((ds.take (t + 1)).map (opV op)) := by
                intro w10 w12 v' hs10 ho12 hb12
                have hxl := hxy.lt
                refine ⟨(Below.trans (Below.trans hby (Below.mono hs10 (by omega))) (Below.mono hb12 (by omega))).setCell (Nat.le_refl _) _, (hxy.again 0).keep ((Below.heap_setCell _ _ _ _ (by dsimp only; omega)).trans ((hb12.block _ (by omega)).trans (hs10.block _ hxl))), v', ?_, ?_⟩
                · have h1 := (hb12.block wb.heap.size (by omega)).trans (hs10.kp HRY.out)
                  simpa using heap_setCell_same w12 wb.heap.size 2 _ 44 v' h1
                · rw [List.take_add_one, HSD.out, Option.toList_some, List.map_append]
                  exact ho12.keep (fun i hi => Below.heap_setCell _ _ _ _ (by have := (ho12.lt i hi).1; dsimp only; omega)) (fun _ h => h.elim) (fun _ h => h)
              obtain ⟨pp, qq, hp, hq, hcase⟩ := HV4.out
              have s4y : Since w4 wy := Below.trans HBR.out (Below.mono hby (by omega))
              have hp := (s4y.cell (p := ⟨pp, 0, none⟩) (World.block_lt_of_cell? w4 ⟨pp, 0, none⟩ hp)).trans hp
              have hq := (s4y.cell (p := ⟨qq, 0, none⟩) (World.block_lt_of_cell? w4 ⟨qq, 0, none⟩ hq)).trans hq
              obtain ⟨Av, cv, hv⟩ := HOWN.out.form
              rw [List.length_map, List.length_take, Nat.min_eq_left (by omega)] at hv
              subst hv
              have hrep := hxy.done
              have zyy := hby.size
              have zxy := hxy.lt
              have HF := Lib.hid hfin
              clear hfin hoy hxy hby s4y
              rcases hcase with ⟨ho1, hm1, rfl⟩ | ⟨rfl, hm1, rfl⟩
              · have hC := place328 op ho1 d hsd j (wb.heap.size + 1) j pp qq hm1 wy (hm1 ▸ hrep) hp hq
                clear hm1 hrep hp hq
                go_wp2_with (first | (go_at_call 328; refine hC.mono ?_; rintro e w10 ⟨rfl, hs10⟩; have hs10' := hs10; have row10 := hs10.kp HRY.out; obtain ⟨a0, a1, a2, -, -, -⟩ := cells3 row10; have z10 := hs10.size; have HO10 := Lib.hid (HOY.out.keep (w' := w10) (fun i hi => hs10.block i (HOY.out.lt i hi).2) (fun _ h => h.elim) (fun _ h => h)); have HS10 := Lib.hid hs10; clear hs10 hs10') | (at_builtin; refine wpList_append_f w10 repInt flatInt (opV op d) [.int .i64 (opV op d)] rfl (.tmp 116) (.tmp 118) 22 rfl 2 i2 _ 8 Tryz.underlying22 HI.out.1 HI.out.2.1 HI.out.2.2.1 HI.out.2.2.2 rfl (by decide) (by decide) (wb.heap.size + 2) _ _ rfl HO10.out rfl w10.heap.size rfl rfl (by rw [List.length_map, List.length_take]; omega) (by omega) ?_; intro v' w12 ho12 hb12; obtain ⟨A5, c5, hv5⟩ := ho12.form; rw [List.length_append, List.length_map, List.length_take, List.length_singleton, Nat.min_eq_left (by omega)] at hv5; subst hv5; have row12 := (hb12.block wb.heap.size (by omega)).trans (HS10.out.kp HRY.out); obtain ⟨-, -, -, -, -, f2⟩ := cells3 row12; obtain ⟨-, -, a2', -, -, -⟩ := cells3 row12; have hf := HF.out w10 w12 _ HS10.out ho12 hb12))
                exact ⟨⟨t + 1, by omega, by go_num, hf.1, hf.2.1, hf.2.2⟩, by simp [intOf]; omega⟩
              · have hC := place329 d hsd j (wb.heap.size + 1) j pp qq hm1 wy (hm1 ▸ hrep) hp hq
                clear hm1 hrep hp hq
                go_wp2_with (first | (go_at_call 329; refine hC.mono ?_; rintro e w10 ⟨rfl, hs10⟩; have hs10' := hs10; have row10 := hs10.kp HRY.out; obtain ⟨a0, a1, a2, -, -, -⟩ := cells3 row10; have z10 := hs10.size; have HO10 := Lib.hid (HOY.out.keep (w' := w10) (fun i hi => hs10.block i (HOY.out.lt i hi).2) (fun _ h => h.elim) (fun _ h => h)); have HS10 := Lib.hid hs10; clear hs10 hs10') | (at_builtin; refine wpList_append_f w10 repInt flatInt (opV ⟨#[65, 100, 100]⟩ d) [.int .i64 (opV ⟨#[65, 100, 100]⟩ d)] rfl (.tmp 116) (.tmp 118) 22 rfl 2 i2 _ 8 Tryz.underlying22 HI.out.1 HI.out.2.1 HI.out.2.2.1 HI.out.2.2.2 rfl (by decide) (by decide) (wb.heap.size + 2) _ _ rfl HO10.out rfl w10.heap.size rfl rfl (by rw [List.length_map, List.length_take]; omega) (by omega) ?_; intro v' w12 ho12 hb12; obtain ⟨A5, c5, hv5⟩ := ho12.form; rw [List.length_append, List.length_map, List.length_take, List.length_singleton, Nat.min_eq_left (by omega)] at hv5; subst hv5; have row12 := (hb12.block wb.heap.size (by omega)).trans (HS10.out.kp HRY.out); obtain ⟨-, -, -, -, -, f2⟩ := cells3 row12; obtain ⟨-, -, a2', -, -, -⟩ := cells3 row12; have hf := HF.out w10 w12 _ HS10.out ho12 hb12))
                exact ⟨⟨t + 1, by omega, by go_num, hf.1, hf.2.1, hf.2.2⟩, by simp [intOf]; omega⟩
        · obtain rfl : x = t := by omega
          rw [List.take_of_length_le (by omega)] at hown
          obtain ⟨g, cg, ev, hg1, hg2, hg3, hgd, hgf⟩ : ∃ g cg, v = .slice (some ⟨g, 0, none⟩) x cg ∧ wb.heap.size + 2 ≤ g ∧ g < wz.heap.size ∧ x ≤ cg ∧ (∀ j d, (ds.map (opV op))[j]? = some d → wz.cell? ⟨g, j, none⟩ = some (.int .i64 d)) ∧ ∀ j, wz.frozen? ⟨g, j, none⟩ = false := by
            obtain ⟨xs, hx, hr⟩ := hown.own
            have hx' := hx
            rcases hx.2 with ⟨_, h0⟩ | ⟨g, cap, cur, rfl, q1, q2, q3, _⟩
            · rw [List.length_map] at h0; omega
            · refine ⟨g, cap, by rw [List.length_map, hl], q1, (Array.getElem?_eq_some_iff.1 q2).1, by rw [List.length_map] at q3; omega, fun j d hj => ?_, fun j => hx'.frozenAt j⟩
              obtain ⟨cs, e1, e2⟩ := hr j d hj
              have e3 := e2 0 (by decide)
              rw [show cs = [.int .i64 d] from e1] at e3
              have hjl := (List.getElem?_eq_some_iff.1 hj).1
              exact (hx'.cellAt j (by simpa [repInt] using hjl)).trans (by simpa [repInt] using e3)
          subst ev
          obtain ⟨a0, a1, a2, -⟩ := cells3 hrow
          have hsz : Since w wz := Below.trans HSW.out (Below.mono hbz HSW.out.size)
          have s4z : Below w4.heap.size w4 wz := Below.trans HBR.out (Below.mono hbz (by omega))
          have hb44 := (s4z.block (w.heap.size + 1) (by omega)).trans (HX4.out.b1 rfl)
          obtain ⟨b0, b1, b2, f0, f1, f2⟩ := cells3 hb44
          have hDz := HD4.out.below s4z
          have n5 := hDz.off hb44 (fun i => by rcases i with _ | _ | _ | i <;> simp; omega)
          have n6 : ∀ b off, D = some ⟨b, off, none⟩ → b ≠ g := fun b off e => by
            obtain ⟨b', o', e', hb', -⟩ := HD4.out
            rw [e] at e'
            cases e'
            omega
          have HZ := Lib.hid (And.intro hsz hDz)
          have HGD := Lib.hid (And.intro hgd hgf)
          clear hown hrow hbz hxz hsz hDz hgd hgf s4z
          go_wp2_with fail
          refine put3 (F := fun W => bodyPost _ _ _ _ _ W) hb44 ?_
          intro w5 g5 hk5 hb5 hz5
          refine bodyPost_ret (res_row_tmp rfl _ _ (w.heap.size + 1) 44 _ (0, 0) _ rfl g5 Tryz.underlying44 rfl (by kernel_rfl)) rfl ?_
          have hzz := HSW.out.size
          refine ⟨_, _, _, _, rfl, ⟨by rw [List.length_map, hl], HZ.out.2.turn n5 hk5 hz5, by omega, by rw [hz5]; exact hg2, fun j d' hj => (World.cell?_of_block (a := ⟨g, j, none⟩) (hk5 g (by omega))).trans (HGD.out.1 j d' hj), fun j => (World.frozen?_of_block (a := ⟨g, j, none⟩) (hk5 g (by omega))).trans (HGD.out.2 j), n6⟩, hg3, Below.trans HZ.out.1 (hb5.mono (by omega))⟩
end Go.Proofs.YtbilddeepnnogaaGreatDoor
end
/- Pieces: which layer does an operator. -/
section
set_option linter.unusedVariables false
set_option maxRecDepth 100000
namespace Go.Proofs.YtbilddeepnnogaaGreatDoor
open Go.RowKit Go.Shelf Go.Maps

def Ours (s : ByteArray) : Prop := s = ⟨#[78, 101, 103]⟩ ∨ s = ⟨#[65, 98, 115]⟩ ∨ s = ⟨#[73, 100, 101, 110, 116, 105, 116, 121]⟩ ∨ s = ⟨#[65, 100, 100]⟩
/-- A map that holds none of ours. -/
def LyM (w : World) (b n : Nat) : Prop := ∃ f m, m ≤ n ∧ MapIs w b f m ∧ ∀ s, Ours s → f s = none
theorem Tryz.und276 : Tryz.prog.underlying 276 = some (.map 9 201) := by kernel_rfl
theorem LyM.put {w : World} {b n : Nat} {s : ByteArray} (h : LyM w b n) (hs : s.size ≤ 1000) (ho : ¬ Ours s) (hn : n ≤ 900) (v : Value) : ∃ w', (Instr.mapUpdate 276 (.map (some b)) (.string s) v).run Tryz.prog w = .ok () w' ∧ LyM w' b (n + 1) ∧ w.grownBy w' (some b) := by
  obtain ⟨f, m, hm, hM, hf⟩ := h
  obtain ⟨w', hr, hM', hg⟩ := hM.put Tryz.und276 hs (by omega) v
  refine ⟨w', hr, ⟨_, _, ?_, hM', fun t ht => ?_⟩, hg⟩
  · split <;> omega
  · unfold upd
    rw [if_neg (by rintro rfl; exact ho ht)]
    exact hf t ht
theorem LyM.keep {w w' : World} {b n : Nat} (h : LyM w b n) (hk : w'.heap[b]? = w.heap[b]?) : LyM w' b n := by
  obtain ⟨f, m, hm, hM, hf⟩ := h
  exact ⟨f, m, hm, hM.keep hk, hf⟩
theorem LyM.lt {w : World} {b n : Nat} (h : LyM w b n) : b < w.heap.size := by
  obtain ⟨f, m, hm, hM, hf⟩ := h
  exact hM.lt
/-- Words that none of ours is, in a row. -/
def OtW (w : World) (g n : Nat) : Prop := ∀ k, k < n → ∃ s, w.cell? ⟨g, k, none⟩ = some (.string s) ∧ s.size ≤ 1000 ∧ ¬ Ours s
theorem OtW.only {w w' : World} {g n b : Nat} (h : OtW w g n) (ho : Only b w w') (hb : g ≠ b) : OtW w' g n := fun k hk => by
  obtain ⟨s, h1, h2⟩ := h k hk
  exact ⟨s, (World.cell?_of_block (a := ⟨g, k, none⟩) (ho.block g (World.block_lt_of_cell? w ⟨g, k, none⟩ h1) hb)).trans h1, h2⟩
set_option maxHeartbeats 3200000 in
theorem layers_any (w : World) : Calls Tryz.prog 173 #[] w fun e w' => e = .returned (.map (some w.heap.size)) ∧ LyM w' w.heap.size 30 ∧ Since w w' := by
  have hmm := @run_makeMap Tryz.prog
  have hm0 : LyM (w.alloc (.map #[] 0)) w.heap.size 0 := ⟨_, 0, Nat.le_refl _, mapIs_made w, fun s _ => rfl⟩
  obtain ⟨w1, hp1, hm1, hg1⟩ := hm0.put (s := ⟨#[77, 97, 116, 77, 117, 108]⟩) (by decide) (by unfold Ours; decide) (by omega) (.func (.func 232) #[] #[])
  obtain ⟨w2, hp2, hm2, hg2⟩ := hm1.put (s := ⟨#[71, 101, 109, 109]⟩) (by decide) (by unfold Ours; decide) (by omega) (.func (.func 232) #[] #[])
  have hs2 : Since w w2 := only_since w.heap.size (below_new w (.map #[] 0)) (Nat.le_refl _) ((grown_only hg1).trans (grown_only hg2))
  have HS2 := Lib.hid hs2
  have HM2 := Lib.hid hm2
  clear hm0 hm1 hm2 hs2 hg1 hg2
  go_enter Tryz.func173, Tryz.ntmps173
  go_wp2_with fail
  refine newX (F := fun W => Code.wp _ _ _ _ W) ?_
  intro w3 h3
  have hA : OtW w3 w2.heap.size 11 := fun k hk => by
    have hb := h3.b0 rfl
    rcases (show k = 0 ∨ k = 1 ∨ k = 2 ∨ k = 3 ∨ k = 4 ∨ k = 5 ∨ k = 6 ∨ k = 7 ∨ k = 8 ∨ k = 9 ∨ k = 10 by omega) with rfl | rfl | rfl | rfl | rfl | rfl | rfl | rfl | rfl | rfl | rfl
    all_goals exact ⟨_, cell_of_row _ _ _ _ 9 (0, 0) hb, by decide, by unfold Ours; decide⟩
  have HA3 := Lib.hid hA
  have HS3 := Lib.hid (HS2.out.trans h3.below)
  have HM3 := Lib.hid (HM2.out.keep (h3.below.block _ HM2.out.lt))
  have HZ3 := Lib.hid (Nat.ne_of_gt (Nat.lt_of_lt_of_le (Nat.lt_of_lt_of_le HM2.out.lt (Nat.le_refl _)) (Nat.le_refl _)))
  clear h3 hA
  go_loopw [3, 12] (fun v i wr => ∃ k : Nat, k ≤ 11 ∧ i = .int .i64 k ∧ LyM wr w.heap.size (k + 2) ∧ Only w.heap.size w3 wr) (fun _ i _ => 11 - (intOf i).toNat)
  case atStart => exact ⟨0, by omega, rfl, by simpa using HM3.out, Only.refl _ _⟩
  case round =>
    obtain ⟨k, hk, rfl, hm, ho⟩ := hrel
    by_cases hlt : k < 11
    · obtain ⟨s, c0, c1, c2⟩ := HA3.out.only ho HZ3.out k hlt
      obtain ⟨w5, hp, hm5, hg5⟩ := hm.put c1 c2 (by omega) (.func (.func 233) #[] #[])
      have hki : (k : Int) < 11 := by omega
      have HO := Lib.hid (ho.trans (grown_only hg5))
      have HM5 := Lib.hid hm5
      clear hm hm5 hg5 ho
      go_wp2_with fail
      exact ⟨⟨k + 1, by omega, by go_num, by rw [show k + 1 + 2 = k + 2 + 1 by omega]; exact HM5.out, HO.out⟩, by simp [intOf]; omega⟩
    · obtain rfl : k = 11 := by omega
      have HT3 := Lib.hid (only_since w.heap.size HS3.out (Nat.le_refl _) ho)
      have HN3 := Lib.hid hm
      clear hm ho hlt hk
      go_wp2_with fail
      refine newX (F := fun W => Code.wp _ _ _ _ W) ?_
      intro w4 h3
      have hA : OtW w4 wr.heap.size 6 := fun k hk => by
        have hb := h3.b0 rfl
        rcases (show k = 0 ∨ k = 1 ∨ k = 2 ∨ k = 3 ∨ k = 4 ∨ k = 5 by omega) with rfl | rfl | rfl | rfl | rfl | rfl
        all_goals exact ⟨_, cell_of_row _ _ _ _ 9 (0, 0) hb, by decide, by unfold Ours; decide⟩
      have HA4 := Lib.hid hA
      have HS4 := Lib.hid (HT3.out.trans h3.below)
      have HM4 := Lib.hid (HN3.out.keep (h3.below.block _ HN3.out.lt))
      have HZ4 := Lib.hid (Nat.ne_of_gt (Nat.lt_of_lt_of_le (Nat.lt_of_lt_of_le HN3.out.lt (Nat.le_refl _)) (Nat.le_refl _)))
      clear h3 hA
      go_loopw [5, 21] (fun v i wr => ∃ k : Nat, k ≤ 6 ∧ i = .int .i64 k ∧ LyM wr w.heap.size (k + 13) ∧ Only w.heap.size w4 wr) (fun _ i _ => 6 - (intOf i).toNat)
      case atStart => exact ⟨0, by omega, rfl, by simpa using HM4.out, Only.refl _ _⟩
      case round =>
        obtain ⟨k, hk, rfl, hm, ho⟩ := hrel
        by_cases hlt : k < 6
        · obtain ⟨s, c0, c1, c2⟩ := HA4.out.only ho HZ4.out k hlt
          obtain ⟨w5, hp, hm5, hg5⟩ := hm.put c1 c2 (by omega) (.func (.func 234) #[] #[])
          have hki : (k : Int) < 6 := by omega
          have HO := Lib.hid (ho.trans (grown_only hg5))
          have HM5 := Lib.hid hm5
          clear hm hm5 hg5 ho
          go_wp2_with fail
          exact ⟨⟨k + 1, by omega, by go_num, by rw [show k + 1 + 13 = k + 13 + 1 by omega]; exact HM5.out, HO.out⟩, by simp [intOf]; omega⟩
        · obtain rfl : k = 6 := by omega
          have HT4 := Lib.hid (only_since w.heap.size HS4.out (Nat.le_refl _) ho)
          have HN4 := Lib.hid hm
          clear hm ho hlt hk
          go_wp2_with fail
          refine newX (F := fun W => Code.wp _ _ _ _ W) ?_
          intro w6 h3
          have hA : OtW w6 wr.heap.size 4 := fun k hk => by
            have hb := h3.b0 rfl
            rcases (show k = 0 ∨ k = 1 ∨ k = 2 ∨ k = 3 by omega) with rfl | rfl | rfl | rfl
            all_goals exact ⟨_, cell_of_row _ _ _ _ 9 (0, 0) hb, by decide, by unfold Ours; decide⟩
          have HA6 := Lib.hid hA
          have HS6 := Lib.hid (HT4.out.trans h3.below)
          have HM6 := Lib.hid (HN4.out.keep (h3.below.block _ HN4.out.lt))
          have HZ6 := Lib.hid (Nat.ne_of_gt (Nat.lt_of_lt_of_le (Nat.lt_of_lt_of_le HN4.out.lt (Nat.le_refl _)) (Nat.le_refl _)))
          clear h3 hA
          go_loopw [7, 30] (fun v i wr => ∃ k : Nat, k ≤ 4 ∧ i = .int .i64 k ∧ LyM wr w.heap.size (k + 19) ∧ Only w.heap.size w6 wr) (fun _ i _ => 4 - (intOf i).toNat)
          case atStart => exact ⟨0, by omega, rfl, by simpa using HM6.out, Only.refl _ _⟩
          case round =>
            obtain ⟨k, hk, rfl, hm, ho⟩ := hrel
            by_cases hlt : k < 4
            · obtain ⟨s, c0, c1, c2⟩ := HA6.out.only ho HZ6.out k hlt
              obtain ⟨w5, hp, hm5, hg5⟩ := hm.put c1 c2 (by omega) (.func (.func 235) #[] #[])
              have hki : (k : Int) < 4 := by omega
              have HO := Lib.hid (ho.trans (grown_only hg5))
              have HM5 := Lib.hid hm5
              clear hm hm5 hg5 ho
              go_wp2_with fail
              exact ⟨⟨k + 1, by omega, by go_num, by rw [show k + 1 + 19 = k + 19 + 1 by omega]; exact HM5.out, HO.out⟩, by simp [intOf]; omega⟩
            · obtain rfl : k = 4 := by omega
              have HT6 := Lib.hid (only_since w.heap.size HS6.out (Nat.le_refl _) ho)
              have HN6 := Lib.hid hm
              clear hm ho hlt hk
              go_wp2_with fail
              go_ret
              exact ⟨rfl, by obtain ⟨f, m, h1, h2, h3⟩ := HN6.out; exact ⟨f, m, by omega, h2, h3⟩, HT6.out⟩
end Go.Proofs.YtbilddeepnnogaaGreatDoor
end
/- Pieces: what a node makes. -/
section
set_option linter.unusedVariables false
set_option maxRecDepth 100000
namespace Go.Proofs.YtbilddeepnnogaaGreatDoor
open Go.RowKit Go.Shelf Go.Maps

theorem zero201 (w : World) : (zeroValue 201).run Tryz.prog w = .ok .nilFunc w := by kernel_rfl
theorem LyM.look {w : World} {b n : Nat} (h : LyM w b n) {s : ByteArray} (ho : Ours s) (hs : s.size ≤ 1000) : (Instr.lookup 276 (.map (some b)) (.string s) true).run Tryz.prog w = .ok (.tuple #[.nilFunc, .bool false]) w := by
  obtain ⟨f, m, hm, hM, hf⟩ := h
  have := hM.look2 (s := s) Tryz.und276 (zero201 w) hs
  rw [hf s ho] at this
  exact this
section
variable {w w' : World} {base g x : Nat} {D : Option Addr} {rs : List Int}
theorem TnX.since (h : TnX w base D g x rs) (hs : Since w w') : TnX w' base D g x rs :=
  ⟨h.len, h.dim.below hs, h.lo, Nat.lt_of_lt_of_le h.lt hs.size, fun j d hj => (hs.cell (p := ⟨g, j, none⟩) h.lt).trans (h.data j d hj), fun j => (hs.frozen (p := ⟨g, j, none⟩) h.lt).trans (h.fz j), h.ne⟩
theorem TnX.lower (h : TnX w base D g x rs) {b : Nat} (hb : b ≤ base) : TnX w b D g x rs := ⟨h.len, h.dim, Nat.le_trans hb h.lo, h.lt, h.data, h.fz, h.ne⟩
/-- An element put where it stands. -/
theorem TnX.put (h : TnX w base D g x rs) {k : Nat} {d : Int} (hk : rs[k]? = some d) : TnX (w.setCell ⟨g, k, none⟩ (.int .i64 d)) base D g x rs := by
  refine ⟨h.len, ?_, h.lo, by simpa [World.setCell] using h.lt, fun j d' hj => ?_, fun j => by rw [World.frozen?_setCell]; exact h.fz j, h.ne⟩
  · exact h.dim.turn (g := g) h.ne (fun j hj => Below.heap_setCell _ _ _ _ hj) (by simp [World.setCell])
  · by_cases e : j = k
    · subst e
      rw [hk] at hj
      cases hj
      exact World.cell?_setCell_same' _ _ _ (by rw [h.data j d hk]; rfl)
    · exact (World.cell?_setCell_other _ _ _ _ (fun e2 => e (by injection e2 with _ e3 _; exact e3.symm))).trans (h.data j d' hj)
/-- Another block turns. -/
theorem TnX.turn (h : TnX w base D g x rs) {q : Nat} (hq : q ≠ g) (hD : ∀ b off, D = some ⟨b, off, none⟩ → b ≠ q) (hk : ∀ j, j ≠ q → w'.heap[j]? = w.heap[j]?) (hz : w'.heap.size = w.heap.size) : TnX w' base D g x rs :=
  ⟨h.len, h.dim.turn hD hk hz, h.lo, by rw [hz]; exact h.lt, fun j d hj => (World.cell?_of_block (a := ⟨g, j, none⟩) (hk g (fun e => hq e.symm))).trans (h.data j d hj), fun j => (World.frozen?_of_block (a := ⟨g, j, none⟩) (hk g (fun e => hq e.symm))).trans (h.fz j), h.ne⟩
end
theorem NdOp.ours {op : ByteArray} {m : Nat} (h : NdOp op m) : Ours op ∧ op.size ≤ 1000 := ⟨h.words, by rcases h.words with rfl | rfl | rfl | rfl <;> decide⟩
set_option maxHeartbeats 6400000 in
theorem semDo_any (op nm out : ByteArray) (A B : Option Addr) (m c d x : Nat) (ds : List Int) (w : World) (hg : Gl w) (hx : Xs w A m) (ht : Tns w B m x ds) (ho : NdOp op m) (hout : (out.toList == []) = false) (hl : ds.length = x) (hx1 : 1 ≤ x) (hx2 : x ≤ 30) (hsm : ∀ y ∈ ds, Sm y) :
    Calls Tryz.prog 99 #[.agg #[.string op, .string nm, .slice A m c, .string out, .slice none 0 0], .slice B m d] w fun e w' => ∃ D k g c', e = .returned (.tuple #[.agg #[.int .i64 6, .slice D 1 k, .slice (some ⟨g, 0, none⟩) x c'], .int .i64 0]) ∧ TnX w' w.heap.size D g x (ds.map (opV op)) ∧ x ≤ c' ∧ Since w w' := by
  have HG := Lib.hid hg
  have HX := Lib.hid hx
  have HT := Lib.hid ht
  have HO := Lib.hid ho
  have HOU := Lib.hid ho.ours
  have HSM := Lib.hid hsm
  clear hg hx ht ho hsm
  go_enter Tryz.func99, Tryz.ntmps99
  go_wp2_with fail
  refine newX2 (F := fun W => Code.wp _ _ _ _ W) ?_
  intro w1 h1
  have HX1 := Lib.hid h1
  obtain ⟨r0, r1, r2, r3, r4, -⟩ := cells5 (h1.b0 rfl)
  clear h1
  go_cut [6, 7] from 16 to 22 (fun v6 v7 wx => v7 = .bool false ∧ Fx w wx [some (.cells #[.string op, .string nm, .slice A m c, .string out, .slice none 0 0] 37), some (.cells #[.int .i64 0, .slice none 0 0, .slice none 0 0] 44)])
  case first =>
    go_region_with (go_at_call 173; refine (layers_any _).mono ?_; rintro e w3 ⟨rfl, hl3, hs3⟩; have h3 := HX1.out.drew.all hs3; have hlk : (Instr.lookup 276 (.map (some w1.heap.size)) (.string op) true).run Tryz.prog w3 = .ok (.tuple #[.nilFunc, .bool false]) w3 := hl3.look HOU.out.1 HOU.out.2; obtain ⟨r0, r1, r2, r3, r4, -⟩ := cells5 (h3.b0 rfl))
    all_goals
      have H3 := Lib.hid h3
      clear h3
      go_wp2_with fail
      go_meet
      exact ⟨rfl, H3.out⟩
  case rest =>
    obtain ⟨rfl, hfx⟩ := hcut
    obtain ⟨r0, r1, r2, r3, r4, -⟩ := cells5 (hfx.b0 rfl)
    have HFX := Lib.hid hfx
    clear hfx HX1
    go_wp2_with fail
    refine (elemDo_any op nm out A B m c d x ds wc (HG.out.below HFX.out.below) (HX.out.below HFX.out.below) (HT.out.since HFX.out.below) HO.out hout hl hx1 hx2 HSM.out).mono ?_
    rintro e w4 ⟨D, kD, g, cg, rfl, htn, hcg, hs4⟩
    have hf4 := HFX.out.all hs4
    have HS4 := Lib.hid hs4
    have HF4 := Lib.hid hf4
    have HTN := Lib.hid htn
    have z4 : w.heap.size < w4.heap.size := by have := hf4.size; simp at this; omega
    have zc : w.heap.size + 2 ≤ wc.heap.size := by have := HFX.out.size; simpa using this
    clear r0 r1 r2 r3 r4
    obtain ⟨r0, r1, r2, r3, r4, -⟩ := cells5 (hf4.b0 rfl)
    clear hf4 htn hs4
    go_wp2_with fail
    refine newX (F := fun W => Calls _ _ _ W _) ?_
    intro w5 h5
    have HX5 := Lib.hid h5
    clear h5
    refine (then_none op nm out A m c w5).mono ?_
    rintro e w6 ⟨rfl, hs6⟩
    have h6 := HX5.out.all hs6
    obtain ⟨a0, a1, a2, -⟩ := cells3 (h6.b0 rfl)
    have HX6 := Lib.hid h6
    have HT6 := Lib.hid (HTN.out.since h6.below)
    have hxi : (x : Int) ≤ 30 := by omega
    clear h6 hs6 r0 r1 r2 r3 r4
    go_wp2_with fail
    go_loopw [44] (fun i wr => ∃ t : Nat, t ≤ x ∧ i = .int .i64 t ∧ Below wc.heap.size wc wr ∧ wr.heap[w4.heap.size]? = some (.cells #[.int .i64 6, .slice D 1 kD, .slice (some ⟨g, 0, none⟩) x cg] 44 (0, 0)) ∧ TnX wr wc.heap.size D g x (ds.map (opV op))) (fun i _ => x - (intOf i).toNat)
    case atStart => exact ⟨0, by omega, rfl, Below.trans HS4.out (Below.mono HX6.out.below HS4.out.size), HX6.out.b0 rfl, HT6.out⟩
    case round =>
      obtain ⟨t, ht, rfl, hb, hrow, htn⟩ := hrel
      by_cases hlt : t < x
      · obtain ⟨d', hd⟩ : ∃ d, (ds.map (opV op))[t]? = some d := ⟨_, List.getElem?_eq_getElem (by rw [List.length_map]; omega)⟩
        have c0 := htn.data t d' hd
        have f0 := htn.fz t
        have hti : (t : Int) < x := by omega
        obtain ⟨a0, a1, a2, -⟩ := cells3 hrow
        have HB := Lib.hid hb
        have HROW := Lib.hid hrow
        have HTR := Lib.hid htn
        have HSD := Lib.hid hd
        clear hb hrow htn hd
        go_wp2_with fail
        refine wp_loop_rounds 1 ?_
        rw [rounds_succ]
        go_wp2_with fail
        exact ⟨⟨t + 1, by omega, by go_num, HB.out.setCell HTR.out.lo _, (Below.heap_setCell _ _ _ _ (by have := HTN.out.lt; dsimp only; omega)).trans HROW.out, HTR.out.put HSD.out⟩, by simp [intOf]; omega⟩
      · obtain rfl : x = t := by omega
        have hb44 := (hb.block (w.heap.size + 1) (by omega)).trans (HFX.out.b1 rfl)
        have n5 := htn.dim.off hb44 (fun i => by rcases i with _ | _ | _ | i <;> simp; omega)
        obtain ⟨a0, a1, a2, -⟩ := cells3 hrow
        obtain ⟨b0, b1, b2, f0, f1, f2⟩ := cells3 hb44
        have zr := hb.size
        have zt := htn.lo
        have zl := htn.lt
        have HB := Lib.hid hb
        have HTR := Lib.hid htn
        clear hb htn hrow
        go_wp2_with fail
        refine put3 (F := fun W => bodyPost _ _ _ _ _ W) hb44 ?_
        intro w7 g7 hk7 hb7 hz7
        refine bodyPost_ret (res_row_tmp rfl _ _ (w.heap.size + 1) 44 _ (0, 0) _ rfl g7 Tryz.underlying44 rfl (by kernel_rfl)) rfl ?_
        exact ⟨_, _, _, _, rfl, (HTR.out.turn (by omega) n5 hk7 hz7).lower (by omega), hcg, Below.trans (Below.trans HFX.out.below (Below.mono HB.out (by omega))) (hb7.mono (by omega))⟩
end Go.Proofs.YtbilddeepnnogaaGreatDoor
end
