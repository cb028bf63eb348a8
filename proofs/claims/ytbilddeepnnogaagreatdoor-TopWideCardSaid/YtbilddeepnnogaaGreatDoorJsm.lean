import Derived.Test.YtbilddeepnnogaaGreatDoorJpm
set_option linter.unusedVariables false
set_option linter.unusedSimpArgs false
/- Runs: a node's value read. -/
section
set_option linter.unusedVariables false
set_option maxRecDepth 100000
namespace Go.Proofs.YtbilddeepnnogaaGreatDoor
open Go.RowKit Go.Shelf Go.Maps

theorem Mc.byts {w : World} {L : Lay} {l : List Op1} {x sz q : Nat} {ds : List Int} {D B : Nat → Nat → Bool} (h : Mc w L l x sz q ds D B) {i : Nat} {o : Op1} (ho : l[i]? = some o) (hl : ds.length = x) (hsz : 1 ≤ sz) (hxq : x ≤ q * sz) (hB : ∀ j, j < q → B i j = true) : Byts w (some ⟨L.Ar, i * up8 (4 * x), none⟩) (ds.map (opV o.op)) := by
  intro e d hd
  rw [List.getElem?_map] at hd
  obtain ⟨y, hy, rfl⟩ := Option.map_eq_some_iff.1 hd
  have hex : e < x := by have := (List.getElem?_eq_some_iff.1 hy).1; omega
  refine ⟨_, _, rfl, fun b hb => ?_⟩
  have h1 : e / sz * sz ≤ e := Nat.div_mul_le_self e sz
  have h2 : e < e / sz * sz + sz := by
    have := Nat.lt_div_mul_add (a := e) (b := sz) hsz
    exact this
  have h3 : e / sz < q := (Nat.div_lt_iff_lt_mul hsz).2 (by omega)
  exact h.bytes i o (e / sz) ho h3 (hB _ h3) e y b h1 h2 hy hb
set_option maxHeartbeats 6400000 in
theorem reado_any {w : World} {L : Lay} {l : List Op1} {x sz q : Nat} {ds : List Int} {D B : Nat → Nat → Bool} (h : Mc w L l x sz q ds D B) {i : Nat} {o : Op1} (ho : l[i]? = some o) (hl : ds.length = x) (hx1 : 1 ≤ x) (hx2 : x ≤ 30) (hsz : 1 ≤ sz) (hxq : x ≤ q * sz) (hB : ∀ j, j < q → B i j = true) (hso : ∀ d ∈ ds, Sm (opV o.op d)) :
    Calls Tryz.prog 80 #[.pointer (some ⟨L.M, 0, none⟩), .string o.out] w fun e w' => ∃ g1 c1 g2 c2, e = .returned (.agg #[.int .i64 6, .slice (some ⟨g1, 0, none⟩) 1 c1, .slice (some ⟨g2, 0, none⟩) x c2]) ∧ TnOk w' (some ⟨g1, 0, none⟩) (some ⟨g2, 0, none⟩) x (ds.map (opV o.op)) ∧ w.heap.size ≤ g1 ∧ w.heap.size ≤ g2 ∧ Since w w' := by
  have hil : i < l.length := (List.getElem?_eq_some_iff.1 ho).1
  have hn5 := h.ok.most
  have hsh := h.ok.short o (List.mem_of_getElem? ho)
  obtain ⟨Ao, co, cR, s, hr, -, hcR, -⟩ := h.row
  obtain ⟨f2, a1, -, a3⟩ := h.at_
  have nM := (Array.getElem?_eq_some_iff.1 hr).1
  have hx0 := fx1 w (.cells #[.int .i64 0, .slice none 0 0, .slice none 0 0] 44)
  have c2 : w.cell? ⟨L.M, 2, none⟩ = some (.map (some L.bA)) := cell_of_row _ _ 2 _ 162 (0, 0) hr
  have c3 : w.cell? ⟨L.M, 3, none⟩ = some (.slice (some ⟨L.Wb, 0, none⟩) l.length L.cW) := cell_of_row _ _ 3 _ 162 (0, 0) hr
  have c4 : w.cell? ⟨L.M, 4, none⟩ = some (.slice (some ⟨L.Ar, 0, none⟩) L.nA cR) := cell_of_row _ _ 4 _ 162 (0, 0) hr
  have l2 := (a1.below hx0.below).look2 (s := o.out) Tryz.und142 (zero3 _) (by omega)
  rw [a3 i o ho] at l2
  simp only [Option.getD_some, Option.isSome_some] at l2
  have cp := h.wp i hil
  have nW := World.block_lt_of_cell? w ⟨L.Wb, i, none⟩ cp
  dsimp only at nW
  obtain ⟨nm, A, cA, Ad, cd, cS, cD, hrw, -, hone⟩ := (h.wkat ho).row
  have nk := (Array.getElem?_eq_some_iff.1 hrw).1
  have k6 : w.cell? ⟨L.wk i, 6, none⟩ = some (.int .i64 6) := cell_of_row _ _ 6 _ 170 (0, 0) hrw
  have k7 : w.cell? ⟨L.wk i, 7, none⟩ = some (.slice Ad 1 cd) := cell_of_row _ _ 7 _ 170 (0, 0) hrw
  have k8 : w.cell? ⟨L.wk i, 8, none⟩ = some (.string o.out) := cell_of_row _ _ 8 _ 170 (0, 0) hrw
  have k9 : w.cell? ⟨L.wk i, 9, none⟩ = some (.int .i64 (i * up8 (4 * x) : Nat)) := cell_of_row _ _ 9 _ 170 (0, 0) hrw
  have k10 : w.cell? ⟨L.wk i, 10, none⟩ = some (.int .i64 (4 * (x : Int))) := cell_of_row _ _ 10 _ 170 (0, 0) hrw
  have hbt := h.byts ho hl hsz hxq hB
  have HBT := Lib.hid hbt
  have HONE := Lib.hid hone
  have HSO := Lib.hid hso
  have hii : (i : Int) < l.length := by omega
  have han := h.an
  have hu := up8_ge (4 * x)
  have hiu : (i + 1) * up8 (4 * x) ≤ l.length * up8 (4 * x) := Nat.mul_le_mul_right _ hil
  rw [Nat.add_mul, Nat.one_mul] at hiu
  generalize i * up8 (4 * x) = a at *
  have ha : a + 4 * x ≤ L.nA := by omega
  clear hr h a1 hx0 hrw hbt hone hso hu hiu
  go_enter Tryz.func80, Tryz.ntmps80
  go_wp2_with fail
  refine newX2 (F := fun W => Code.wp _ _ _ _ W) ?_
  intro w1 hx
  obtain ⟨t0, t1, t2, -⟩ := cells3 (hx.b1 rfl)
  have c4 := (hx.below.cell (p := ⟨L.M, 4, none⟩) nM).trans c4
  have k6 := (hx.below.cell (p := ⟨L.wk i, 6, none⟩) nk).trans k6
  have k7 := (hx.below.cell (p := ⟨L.wk i, 7, none⟩) nk).trans k7
  obtain ⟨b, hbe⟩ : ∃ b, b = a + 4 * x := ⟨_, rfl⟩
  have hwr : IntKind.i64.wrap ((a : Int) + 4 * (x : Int)) = (b : Int) := by rw [IntKind.wrap_i64]; omega
  have hmax : max (b : Int) 0 = b := by omega
  have hbc : (b : Int) ≤ cR := by omega
  have hab : a ≤ b := by omega
  have hac : ¬ cR = a := by omega
  have hG := get_any (some ⟨L.Ar, a, none⟩) (cR - a) (ds.map (opV o.op)) w1.drew (fun d hd => by
    obtain ⟨y, hy, rfl⟩ := List.mem_map.1 hd
    exact HSO.out y hy) (by rw [List.length_map]; omega) (by rw [List.length_map]; omega) (HBT.out.since (Since.dr hx.below))
  rw [List.length_map, show ds.length * 4 = b - a by omega] at hG
  have HG := Lib.hid hG
  have HX1 := Lib.hid hx
  have HKS : ∀ W, Since w1 W → W.cell? ⟨L.M, 4, none⟩ = some (.slice (some ⟨L.Ar, 0, none⟩) L.nA cR) ∧ W.cell? ⟨w.heap.size + 1, 1, none⟩ = some (.int .i64 a) ∧ W.cell? ⟨w.heap.size + 1, 2, none⟩ = some (.int .i64 (4 * (x : Int))) ∧ W.cell? ⟨L.wk i, 6, none⟩ = some (.int .i64 6) := fun W hW => ⟨(hW.cell (p := ⟨L.M, 4, none⟩) (World.block_lt_of_cell? w1 _ c4)).trans c4, (hW.cell (p := ⟨w.heap.size + 1, 1, none⟩) (World.block_lt_of_cell? w1 _ t1)).trans t1, (hW.cell (p := ⟨w.heap.size + 1, 2, none⟩) (World.block_lt_of_cell? w1 _ t2)).trans t2, (hW.cell (p := ⟨L.wk i, 6, none⟩) (World.block_lt_of_cell? w1 _ k6)).trans k6⟩
  have HK := Lib.hid HKS
  have HK7 := Lib.hid k7
  have HK6 := Lib.hid k6
  have HBE := Lib.hid hbe
  clear HKS hG hx c4 k6 k7 t0 t1 t2 hbe
  go_region_held3 (fun W => W.cell? ⟨L.M, 4, none⟩ = some (.slice (some ⟨L.Ar, 0, none⟩) L.nA cR) ∧ W.cell? ⟨w.heap.size + 1, 1, none⟩ = some (.int .i64 a) ∧ W.cell? ⟨w.heap.size + 1, 2, none⟩ = some (.int .i64 (4 * (x : Int))) ∧ W.cell? ⟨L.wk i, 6, none⟩ = some (.int .i64 6)) (first | with_reducible exact HK.out _ (Since.refl w1).dr | with_reducible exact HK.out _ hs16) ((go_at_call 151; (with_reducible refine HG.out.mono ?_); rintro e w6 ⟨v6, rfl, ho6, hs6⟩; have hs16 : Since w1 w6 := Since.trans (Since.refl w1).dr hs6))
  obtain ⟨g, cg, ev, lg, ug, mg, hd6, -⟩ := ho6.ints (by rw [List.length_map]; omega)
  rw [List.length_map, hl] at ev
  subst ev
  have hx6 := HX1.out.all hs16
  have k6 := (hs16.cell (p := ⟨L.wk i, 6, none⟩) (World.block_lt_of_cell? w1 _ HK6.out)).trans HK6.out
  have k7 := (hs16.cell (p := ⟨L.wk i, 7, none⟩) (World.block_lt_of_cell? w1 _ HK7.out)).trans HK7.out
  have hC := clone1_any w6.drew Ad cd x ((HONE.out.below hx6.below).below (Since.refl w6).dr)
  have HC := Lib.hid hC
  have HX6 := Lib.hid hx6
  have HD6 := Lib.hid hd6
  have HKS : ∀ W, Since w6 W → W.cell? ⟨L.wk i, 6, none⟩ = some (.int .i64 6) ∧ W.cell? ⟨L.wk i, 7, none⟩ = some (.slice Ad 1 cd) := fun W hW => ⟨(hW.cell (p := ⟨L.wk i, 6, none⟩) (World.block_lt_of_cell? w6 _ k6)).trans k6, (hW.cell (p := ⟨L.wk i, 7, none⟩) (World.block_lt_of_cell? w6 _ k7)).trans k7⟩
  have HKK := Lib.hid HKS
  have z6 : w.heap.size + 2 ≤ w6.heap.size := by have := hx6.size; simpa using this
  clear HKS hC hx6 k6 k7 ho6 hs6 hd6 HK HG hs16
  go_wp2_with fail
  go_region_held3 (fun W => W.cell? ⟨L.wk i, 6, none⟩ = some (.int .i64 6) ∧ W.cell? ⟨L.wk i, 7, none⟩ = some (.slice Ad 1 cd)) (first | with_reducible exact HKK.out _ (Since.refl w6).dr | with_reducible exact HKK.out _ hs67 | exact ⟨(far3 (by dsimp only; omega)).trans p6, (far3 (by dsimp only; omega)).trans p7⟩) ((go_at_call 65; (with_reducible refine HC.out.mono ?_); rintro e w7 ⟨A7, c7, rfl, hn7, hs7⟩; have hs67 : Since w6 w7 := Since.trans (Since.refl w6).dr hs7; obtain ⟨p6, p7⟩ := HKK.out _ hs67; have hx7 := HX6.out.all hs67; obtain ⟨s0, s1, s2, e0, e1, e2⟩ := cells3 (hx7.b0 rfl)))
  obtain ⟨g7, rfl, l7, u7, q7, -⟩ := hn7
  have zdr : w6.drew.heap.size = w6.heap.size := rfl
  refine put3 (F := fun W => Exit.then _ _ _ _ W) (hx7.b0 rfl) ?_
  intro w8 g8 hk hb hz
  have hT : TnOk w7 (some ⟨g7, 0, none⟩) (some ⟨g, 0, none⟩) x (ds.map (opV o.op)) := ⟨by rw [List.length_map, hl], hx1, hx2, ⟨g7, 0, rfl, u7, q7⟩, fun j d hj => ⟨g, 0, rfl, by rw [Nat.zero_add]; exact (hs67.cell (p := ⟨g, j, none⟩) ug).trans (HD6.out j d hj)⟩, fun d hd => by
    obtain ⟨y, hy, rfl⟩ := List.mem_map.1 hd
    exact HSO.out y hy⟩
  have zx := HX1.out.below.size
  have zdr1 : w1.drew.heap.size = w1.heap.size := rfl
  go_wp2_with fail
  refine bodyPost_ret (results_cell_row rfl _ _ w.heap.size 44 _ (0, 0) _ rfl g8 Tryz.underlying44 rfl (by kernel_rfl)) rfl ?_
  have zz1 : w.heap.size + 2 ≤ w1.heap.size := by have := HX1.out.size; simpa using this
  exact ⟨_, _, _, _, rfl, hT.turn (gs := w.heap.size) (by omega) (by omega) hk hz, by omega, by omega, hx7.below.trans hb⟩
end Go.Proofs.YtbilddeepnnogaaGreatDoor
end
/- Runs: what comes out. -/
section
set_option linter.unusedVariables false
set_option maxRecDepth 100000
namespace Go.Proofs.YtbilddeepnnogaaGreatDoor
open Go.RowKit Go.Shelf Go.Maps

theorem undone_zero {D : Nat → Bool} {q : Nat} : undone D q = 0 ↔ ∀ j, j < q → D j = true := by
  induction q with
  | zero => exact ⟨fun _ j hj => by omega, fun _ => rfl⟩
  | succ q ih =>
    rw [undone]
    constructor
    · intro h j hj
      by_cases e : D q = true
      · rw [if_pos e] at h
        rcases Nat.lt_or_ge j q with h1 | h1
        · exact ih.1 (by omega) j h1
        · obtain rfl : j = q := by omega
          exact e
      · rw [if_neg e] at h; omega
    · intro h
      rw [if_pos (h q (by omega)), ih.2 (fun j hj => h j (by omega))]
theorem openN_zero {D : Nat → Nat → Bool} {q n : Nat} : openN D q n = 0 ↔ ∀ i, i < n → ∀ j, j < q → D i j = true := by
  induction n with
  | zero => exact ⟨fun _ i hi => by omega, fun _ => rfl⟩
  | succ n ih =>
    rw [openN]
    constructor
    · intro h i hi
      rcases Nat.lt_or_ge i n with h1 | h1
      · exact ih.1 (by omega) i h1
      · obtain rfl : i = n := by omega
        exact undone_zero.1 (by omega)
    · intro h
      rw [ih.2 (fun i hi => h i (by omega)), undone_zero.2 (h n (by omega))]
/-- A tensor's words. -/
def tnOf (x : Int) (es : List Int) : Tn := ⟨6, [x], es⟩
theorem TnOk.rep {w : World} {g1 g2 x : Nat} {es : List Int} (h : TnOk w (some ⟨g1, 0, none⟩) (some ⟨g2, 0, none⟩) x es) (c1 c2 : Nat) : repTn.R w (fun k => k = g1 ∨ k = g2) [.int .i64 6, .slice (some ⟨g1, 0, none⟩) 1 c1, .slice (some ⟨g2, 0, none⟩) x c2] (tnOf x es) := by
  have hl := h.len
  have h1 := h.lo
  have h2 := h.hi
  refine ⟨_, _, rfl, ⟨_, _, _, rfl, ⟨rfl, by unfold maxLen; omega, fun _ => ⟨g1, 0, rfl, .inl rfl, fun j y hj => ?_⟩⟩, fun e => by cases e⟩, ⟨_, _, _, rfl, ⟨hl, by unfold maxLen; omega, fun _ => ⟨g2, 0, rfl, .inr rfl, fun j y hj => ?_⟩⟩, fun e => by rw [show es = [] from e] at hl; simp at hl; omega⟩⟩
  · match j, hj with
    | 0, hj =>
      cases hj
      refine ⟨_, rfl, fun i hi => ?_⟩
      obtain rfl : i = 0 := by have : i < 1 := hi; omega
      obtain ⟨b, off, e, -, q⟩ := h.dim
      cases e
      simpa using q
    | j + 1, hj => cases hj
  · refine ⟨_, rfl, fun i hi => ?_⟩
    obtain rfl : i = 0 := by have : i < 1 := hi; omega
    obtain ⟨b, off, e, q⟩ := h.nums j y hj
    cases e
    simpa [repInt] using q
set_option maxHeartbeats 6400000 in
theorem mout_any {w : World} {L : Lay} {l : List Op1} {x sz q : Nat} {ds : List Int} {D : Nat → Nat → Bool} (h : Mc w L l x sz q ds D D) (hl : ds.length = x) (hx1 : 1 ≤ x) (hx2 : x ≤ 30) (hsz : 1 ≤ sz) (hq : q ≤ 30) (hxq : x ≤ q * sz) (hD : ∀ i, i < l.length → ∀ j, j < q → D i j = true) (hso : ∀ o ∈ l, ∀ d ∈ ds, Sm (opV o.op d)) :
    Calls Tryz.prog 37 #[.pointer (some ⟨L.M, 0, none⟩)] w fun e w' => ∃ v, e = .returned (.tuple #[v, .int .i64 0]) ∧ IsSlc repTn w' (fun k => w.heap.size ≤ k ∧ k < w'.heap.size) v (l.map (fun o => tnOf x (ds.map (opV o.op)))) ∧ Since w w' := by
  have hn5 := h.ok.most
  have hn0 := h.ok.pos
  have hnl : (l.length : Int) ≤ 5 := by omega
  have hE := enabled_any L.M L.Wb L.cW L.wk L.S L.Dn l h.ok x sz q hx2 hq D w h.st
  have hO : openL D x sz q l.length = [] := List.eq_nil_of_length_eq_zero (by rw [openL_len]; exact openN_zero.2 hD)
  rw [hO] at hE
  have H := Lib.hid h
  have HSO := Lib.hid hso
  have HD := Lib.hid hD
  obtain ⟨i44, hi44⟩ : ∃ i, Tryz.prog.info? 44 = some i ∧ i.zero = some (.agg #[.int .i64 0, .slice none 0 0, .slice none 0 0]) ∧ i.size = 3 ∧ i.bytes = 56 := by
    obtain ⟨i, h1, h2, h3, h4⟩ := info_parts Tryz.info44
    exact ⟨i, h1, h2, h3, h4⟩
  have HI := Lib.hid hi44
  clear h hso hD hO hi44
  go_enter Tryz.func37, Tryz.ntmps37
  go_wp2_with fail
  refine hE.mono ?_
  rintro e w2 ⟨v, rfl, hov, hs2⟩
  obtain rfl := hov.nil rfl
  have hm2 := H.out.since hs2
  obtain ⟨Ao, co, cR, s, hr, hvl, -⟩ := hm2.row
  have HV := Lib.hid hvl.vlAt
  have c3 : w2.cell? ⟨L.M, 3, none⟩ = some (.slice (some ⟨L.Wb, 0, none⟩) l.length L.cW) := cell_of_row _ _ 3 _ 162 (0, 0) hr
  have c0 : w2.cell? ⟨L.M, 0, none⟩ = some (.slice Ao l.length co) := cell_of_row _ _ 0 _ 162 (0, 0) hr
  have HM2 := Lib.hid hm2
  have HS2 := Lib.hid hs2
  have HROW := Lib.hid hr
  clear hov hs2 hm2 hr hE hvl
  go_wp2_with fail
  go_loopw [18] (fun i wr => ∃ k : Nat, k ≤ l.length ∧ i = .int .i64 k ∧ wr = w2) (fun i _ => l.length - (intOf i).toNat)
  case atStart => exact ⟨0, by omega, rfl, rfl⟩
  case round =>
    obtain ⟨k, hk, rfl, hwr⟩ := hrel
    subst hwr
    by_cases hlt : k < l.length
    · obtain ⟨o, ho⟩ : ∃ o, l[k]? = some o := ⟨_, List.getElem?_eq_getElem hlt⟩
      have cp := HM2.out.wp k hlt
      obtain ⟨nm, A, cA, Ad, cd, cS, cD, hrw, -, -⟩ := (HM2.out.wkat ho).row
      have k14 := cell_of_row _ _ 14 _ 170 (0, 0) hrw
      have hki : (k : Int) < l.length := by omega
      simp only [List.getElem?_toArray, List.getElem?_cons_succ, List.getElem?_cons_zero] at k14
      clear hrw ho
      go_wp2_with fail
      exact ⟨⟨k + 1, by omega, by go_num, trivial⟩, by simp [intOf]; omega⟩
    · obtain rfl : k = l.length := by omega
      rename World => w2
      go_wp2_with fail
      go_loopw [6, 37] (fun v i wr => ∃ k : Nat, k ≤ l.length ∧ i = .int .i64 k ∧ Since w2 wr ∧ OZ repTn 44 wr w2.heap.size v ((l.take k).map (fun o => tnOf x (ds.map (opV o.op))))) (fun _ i _ => l.length - (intOf i).toNat)
      case atStart => exact ⟨0, by omega, rfl, Since.refl _, oz_nil⟩
      case round =>
        obtain ⟨k, hk, rfl, hs, hz⟩ := hrel
        rename World => wr
        by_cases hlt : k < l.length
        · obtain ⟨o, ho⟩ : ∃ o, l[k]? = some o := ⟨_, List.getElem?_eq_getElem hlt⟩
          obtain ⟨bo, oo, eo, hbo, hco⟩ := HV.out.below hs
          subst eo
          obtain ⟨Ad, cd, q0, q1, q2, -⟩ := hco k o.out (by rw [List.getElem?_map, ho]; rfl)
          have hsa : Since w2 (wr.alloc (.cells #[.string o.out, .int .i64 6, .slice Ad 1 cd] 28)) := Since.al hs _
          have hRd := reado_any (HM2.out.since hsa) ho hl hx1 hx2 hsz hxq (HD.out k hlt) (HSO.out o (List.mem_of_getElem? ho))
          obtain ⟨Av, cv, hv⟩ := hz.form
          rw [List.length_map, List.length_take, Nat.min_eq_left (by omega)] at hv
          subst hv
          have hki : (k : Int) < l.length := by omega
          have HS := Lib.hid hs
          have HZ := Lib.hid hz
          have HO := Lib.hid ho
          clear hs hz ho hsa hco
          go_wp2_with fail
          refine hRd.mono ?_
          rintro e w6 ⟨a1, c1, a2, c2, rfl, hT6, l1, l2, hs6⟩
          rw [World.size_alloc] at l1 l2
          have z6 := hs6.size
          rw [World.size_alloc] at z6
          have hs26 : Since wr w6 := Below.trans (below_new _ _) (Below.mono hs6 (by simp))
          have HS26 := Lib.hid hs26
          clear hs6 hs26 hRd q0 q1 q2
          go_wp2_with fail
          refine (sown_any (some ⟨a1, 0, none⟩) (some ⟨a2, 0, none⟩) c1 c2 x (ds.map (opV o.op)) w6 hT6).mono ?_
          rintro e w7 ⟨b1, d1, b2, d2, rfl, hT7, m1, m2, m3, hs7⟩
          have z7 := hs7.size
          have hz7 := (HZ.out.below HS26.out).below hs7
          have zr := HS.out.size
          have hrow := HZ.out.row_lt
          have hlt1 : b1 < w7.heap.size := by obtain ⟨_, _, e, h1, -⟩ := hT7.dim; cases e; exact h1
          have hlt2 : b2 < w7.heap.size := by
            obtain ⟨d0, hd0⟩ : ∃ d, (ds.map (opV o.op))[0]? = some d := ⟨_, List.getElem?_eq_getElem (by rw [List.length_map]; omega)⟩
            obtain ⟨_, _, e, q⟩ := hT7.nums 0 d0 hd0
            cases e
            exact World.block_lt_of_cell? w7 _ q
          have HR := Lib.hid (hT7.rep d1 d2)
          have HZ7 := Lib.hid hz7
          have HS27 := Lib.hid (Since.trans HS.out (Since.trans HS26.out hs7))
          clear hs7 hT7 hT6 hz7
          go_wp2_with (at_builtin; refine wpList_append_z w7 repTn (tnOf x (ds.map (opV o.op))) [.int .i64 6, .slice (some ⟨b1, 0, none⟩) 1 d1, .slice (some ⟨b2, 0, none⟩) x d2] rfl (.tmp 41) (.tmp 47) 38 rfl 44 i44 _ 56 Tryz.underlying38 HI.out.1 HI.out.2.1 HI.out.2.2.1 HI.out.2.2.2 rfl (by decide) (by decide) w2.heap.size _ _ rfl HZ7.out (fun k => k = b1 ∨ k = b2) HR.out (fun k hk => by rcases hk with rfl | rfl <;> exact ⟨by omega, by omega, fun e => by have := hrow _ e; omega⟩) w7.heap.size rfl rfl (by rw [List.length_map, List.length_take]; omega) (by omega) ?_; intro v' w8 hz8 hg8)
          exact ⟨⟨k + 1, by omega, by go_num, Below.grown HS27.out hg8 (by omega) (fun k e => (hrow k e).1), by rw [List.take_add_one, HO.out, Option.toList_some, List.map_append]; exact hz8⟩, by simp [intOf]; omega⟩
        · obtain rfl : k = l.length := by omega
          rw [List.take_length] at hz
          have HS := Lib.hid hs
          have HZ := Lib.hid hz
          clear hs hz
          go_wp2_with fail
          go_ret2
          exact ⟨_, rfl, (HZ.out.isSlc (by decide)).keep (fun _ _ => rfl) (fun k hk => ⟨Nat.le_trans HS2.out.size hk.1, hk.2⟩), HS2.out.trans HS.out⟩
end Go.Proofs.YtbilddeepnnogaaGreatDoor
end
