import Derived.Test.YtbilddeepnnogaaGreatDoorJu
import Derived.Test.YtbilddeepnnogaaGreatDoorHhm
import Derived.Test.YtbilddeepnnogaaGreatDoorGf
import Derived.Test.YtbilddeepnnogaaGreatDoorKfm
set_option linter.unusedVariables false
set_option linter.unusedSimpArgs false
/- Runs: a machine made. -/
set_option linter.unusedVariables false
set_option maxRecDepth 100000
namespace Go.Proofs.YtbilddeepnnogaaGreatDoor
open Go.RowKit Go.Shelf Go.Maps

theorem Tryz.info168 : (Tryz.prog.info? 168).map (fun i => (i.zero, i.size, i.bytes)) = some (some (.pointer none), 1, 8) := by kernel_rfl
theorem make_bytes (n : Nat) (hn : n ≤ 1000) (w : World) : (Instr.makeSlice 114 (.int .i64 (n : Int)) (.int .i64 (n : Int))).run Tryz.prog w = .ok (.slice (some ⟨w.heap.size, 0, none⟩) n n) (w.alloc (.cells (madeCells #[.int .u8 0] n) 5)) :=
  run_make_row' (P := Tryz.prog) 114 5 (.int .u8 0) 1 Tryz.underlying114 (by kernel_rfl) rfl .i64 .i64 n (by omega) (by omega) w
set_option maxHeartbeats 6400000 in
theorem new_any (gn : ByteArray) (An Ai Ao Ap At : Option Addr) (cn ci co cp ct sz : Nat) (l : List Op1) (x : Nat) (ds : List Int) (w : World) (h : FlatG w An Ai Ao l x) (hp : PlcAt w Ap l x) (hcp : l.length ≤ cp) (ht : Tns w At 1 x ds) (hsz : 1 ≤ sz) (hsz2 : sz ≤ 10) :
    Calls Tryz.prog 33 #[.agg #[.string gn, .slice An l.length cn, .slice Ai 1 ci, .slice Ao l.length co, .slice none 0 0], .agg #[.int .i64 (l.length * up8 (4 * x) : Nat), .slice Ap l.length cp, .slice none 0 0], .slice At 1 ct, .int .i64 sz] w (NewIs l x sz ds w) := by
  have hx2 : x ≤ 30 := by have := h.hi; omega
  have hx1 : 1 ≤ x := by have := h.lo; omega
  have hn5 := h.ok.most
  have hn0 := h.ok.pos
  have hnl : (l.length : Int) ≤ 5 := by omega
  have hu : up8 (4 * x) ≤ 120 := by unfold up8; omega
  have hmb : l.length * up8 (4 * x) ≤ 5 * 120 := Nat.mul_le_mul hn5 hu
  have hs1 : ¬ (sz : Int) < 1 := by omega
  have hs2 : ¬ (65536 : Int) < sz := by omega
  have H := Lib.hid h
  have HP := Lib.hid hp
  have HT := Lib.hid ht
  obtain ⟨m, hm⟩ : ∃ m, m = l.length * up8 (4 * x) := ⟨_, rfl⟩
  have hmm := @run_makeMap Tryz.prog
  have hmy := make_bytes m (by omega)
  obtain ⟨i168, hi168⟩ : ∃ i, Tryz.prog.info? 168 = some i ∧ i.zero = some (.pointer none) ∧ i.size = 1 ∧ i.bytes = 8 := by
    obtain ⟨i, h1, h2, h3, h4⟩ := info_parts (Tryz.info168)
    exact ⟨i, h1, h2, h3, h4⟩
  have HI8 := Lib.hid hi168
  clear hi168
  have hFi : ∀ (W : World) (A : Option Addr) (c : Nat), FlatG W An Ai Ao l x → VlAt W A (⟨#[120]⟩ :: l.map (·.out)) x → PlcAt W Ap l x → l.length + 1 ≤ c → Calls Tryz.prog 71 #[.agg #[.string gn, .slice An l.length cn, .slice Ai 1 ci, .slice Ao l.length co, .slice none 0 0], .slice A (l.length + 1) c, .agg #[.int .i64 m, .slice Ap l.length cp, .slice none 0 0]] W fun e w' => e = .returned (.bool true) ∧ Since W w' := fun W A c q1 q2 q3 q4 => by
    rw [hm]
    exact fits_any gn An Ai Ao A Ap cn ci co c cp l x W q1 q2 q3 q4 hcp
  have HMM := Lib.hid hm
  have HFI := Lib.hid hFi
  rw [← hm] at hmb ⊢
  clear h hp ht hm hFi
  go_enter Tryz.func33, Tryz.ntmps33
  go_wp2_with fail
  refine newX2 (F := fun W => Calls _ _ _ W _) ?_
  intro w1 h1
  have HX1 := Lib.hid h1
  clear h1
  refine (all_cap gn An Ai Ao cn ci co l x w1 (H.out.below HX1.out.below)).mono ?_
  rintro e w2 ⟨A, ca, rfl, hva, hb2, hca⟩
  have HX2 := Lib.hid (HX1.out.all hb2)
  obtain ⟨r0, r1, r2, r3, r4, -⟩ := cells5 (HX2.out.b0 rfl)
  obtain ⟨s0, s1, s2, -⟩ := cells3 (HX2.out.b1 rfl)
  have HVA := Lib.hid hva
  clear hva hb2
  go_wp2_with fail
  refine (HFI.out w2 A ca (H.out.below HX2.out.below) HVA.out (HP.out.below HX2.out.below) hca).mono ?_
  rintro e w3 ⟨rfl, hs3⟩
  have HX3 := Lib.hid (HX2.out.all hs3)
  have HVA3 := Lib.hid (HVA.out.below hs3)
  clear r0 r1 r2 r3 r4 s0 s1 s2 hs3 HFI
  obtain ⟨r0, r1, r2, r3, r4, -⟩ := cells5 (HX3.out.b0 rfl)
  obtain ⟨s0, s1, s2, -⟩ := cells3 (HX3.out.b1 rfl)
  have z3 : w.heap.size + 1 < w3.heap.size := by have := HX3.out.size; simp at this; omega
  have z3' : w.heap.size < w3.heap.size := by omega
  have z3a : w.heap.size < w3.heap.size + 1 := by omega
  have z3b : w.heap.size < w3.heap.size + 1 + 1 := by omega
  have z3c : w.heap.size < w3.heap.size + 1 + 1 + 1 := by omega
  go_wp2_with fail
  refine newX4 (F := fun W => Code.wp _ _ _ _ W) ?_
  intro w4 h4
  have HX4 := Lib.hid h4
  have hs34 := h4.below
  clear h4 r0 r1 r2 r3 r4 s0 s1 s2
  obtain ⟨r0, r1, r2, r3, r4, -⟩ := cells5 (Since.kp hs34 (HX3.out.b0 rfl))
  obtain ⟨s0, s1, s2, -⟩ := cells3 (Since.kp hs34 (HX3.out.b1 rfl))
  have hsw4 : Since w w4 := HX3.out.below.trans (Below.mono hs34 HX3.out.below.size)
  obtain ⟨bi, oi, ei, hbi, hci⟩ := (H.out.below hsw4).ins
  subst ei
  obtain ⟨Adv, cdv, v0, v1, v2, v3⟩ := hci 0 _ rfl
  simp only [Nat.zero_mul, Nat.add_zero] at v0 v1 v2
  obtain ⟨bt, ot, et, hbt, hct⟩ := HT.out.since hsw4
  subst et
  obtain ⟨Ad, cd, At2, ct2, t0, t1, t2, t3⟩ := hct 0 (by omega)
  simp only [Nat.zero_mul, Nat.add_zero] at t0 t1 t2
  have HSW4 := Lib.hid hsw4
  have HV3 := Lib.hid v3
  have HT3 := Lib.hid t3
  have z4 : w.heap.size + 1 < w4.heap.size := by have := hs34.size; omega
  have z4' : w.heap.size < w4.heap.size := by omega
  have ybt : bt < w4.heap.size + 1 := by omega
  clear hci hct v3 t3 hsw4 hs34
  refine wp_loop_rounds 2 ?_
  rw [rounds_succ]
  go_wp2_with fail
  refine newX2 (F := fun W => Calls _ _ _ W _) ?_
  intro w5 h5
  have HX5 := Lib.hid h5
  clear h5
  refine (pcheck_any Ad At2 cd ct2 x ds w5 (HT3.out.since HX5.out.below)).mono ?_
  rintro e w6 ⟨rfl, hs6⟩
  have HX6 := Lib.hid (HX5.out.all hs6)
  obtain ⟨x0, x1, x2, -⟩ := cells3 (HX6.out.b0 rfl)
  obtain ⟨y0, y1, y2, -⟩ := cells3 (HX6.out.b1 rfl)
  clear hs6
  have hEq := equal1_any w6 Ad Adv cd cdv x (HT3.out.dim.below HX6.out.below) (HV3.out.below HX6.out.below)
  go_wp2_with (go_at_call 67; refine hEq.mono ?_; rintro e w7 ⟨rfl, hs7⟩)
  have HX7 := Lib.hid (HX6.out.all hs7)
  clear hs7 hEq x0 x1 x2 y0 y1 y2
  have x0 : w7.cell? ⟨w4.heap.size, 0, none⟩ = some (.string ⟨#[120]⟩) := (cells3 (HX7.out.b0 rfl)).1
  have c1 : w7.cell? ⟨w3.heap.size + 1 + 1 + 1, 1, none⟩ = some (.map (some w3.heap.size)) := cell_of_row _ _ 1 _ 162 (0, 0) (Since.kp HX7.out.below (HX4.out.b3 rfl))
  have u0 : w7.cell? ⟨bt, ot, none⟩ = some (.int .i64 6) := (HX7.out.below.cell (p := ⟨bt, ot, none⟩) hbt).trans t0
  have u1 : w7.cell? ⟨bt, ot + 1, none⟩ = some (.slice Ad 1 cd) := (HX7.out.below.cell (p := ⟨bt, ot + 1, none⟩) hbt).trans t1
  have u2 : w7.cell? ⟨bt, ot + 2, none⟩ = some (.slice At2 x ct2) := (HX7.out.below.cell (p := ⟨bt, ot + 2, none⟩) hbt).trans t2
  have HOW := Lib.hid (sown_any Ad At2 cd ct2 x ds w7.drew (HT3.out.since (Since.dr HX7.out.below)))
  have HKS : ∀ W, Since w7 W → W.cell? ⟨w3.heap.size + 1 + 1 + 1, 1, none⟩ = some (.map (some w3.heap.size)) ∧ W.cell? ⟨w4.heap.size, 0, none⟩ = some (.string ⟨#[120]⟩) ∧ W.cell? ⟨bt, ot, none⟩ = some (.int .i64 6) ∧ W.cell? ⟨bt, ot + 1, none⟩ = some (.slice Ad 1 cd) ∧ W.cell? ⟨bt, ot + 2, none⟩ = some (.slice At2 x ct2) := fun W hW => ⟨(hW.cell (p := ⟨w3.heap.size + 1 + 1 + 1, 1, none⟩) (World.block_lt_of_cell? w7 _ c1)).trans c1, (hW.cell (p := ⟨w4.heap.size, 0, none⟩) (World.block_lt_of_cell? w7 _ x0)).trans x0, (hW.cell (p := ⟨bt, ot, none⟩) (World.block_lt_of_cell? w7 _ u0)).trans u0, (hW.cell (p := ⟨bt, ot + 1, none⟩) (World.block_lt_of_cell? w7 _ u1)).trans u1, (hW.cell (p := ⟨bt, ot + 2, none⟩) (World.block_lt_of_cell? w7 _ u2)).trans u2⟩
  have HK := Lib.hid HKS
  have z47 : w3.heap.size + 4 ≤ w4.heap.size := by have := HX4.out.size; simpa using this
  have zz47 : w4.heap.size + 2 ≤ w7.heap.size := by have := HX7.out.size; simpa using this
  clear HKS x0 c1 u0 u1 u2
  have hbtw : bt < w.heap.size := by
    obtain ⟨b', o', e', h', -⟩ := HT.out
    cases e'
    exact h'
  have HKG : ∀ W W', Since w7 W → W.grownBy W' (some w3.heap.size) → W'.cell? ⟨w3.heap.size + 1 + 1 + 1, 1, none⟩ = some (.map (some w3.heap.size)) ∧ W'.cell? ⟨w4.heap.size, 0, none⟩ = some (.string ⟨#[120]⟩) ∧ W'.cell? ⟨bt, ot, none⟩ = some (.int .i64 6) ∧ W'.cell? ⟨bt, ot + 1, none⟩ = some (.slice Ad 1 cd) ∧ W'.cell? ⟨bt, ot + 2, none⟩ = some (.slice At2 x ct2) := fun W W' hW hg => by
    obtain ⟨e1, e2, e3, e4, e5⟩ := HK.out W hW
    have hz := hW.size
    have ce : ∀ b o v, W.cell? ⟨b, o, none⟩ = some v → b ≠ w3.heap.size → W'.cell? ⟨b, o, none⟩ = some v := fun b o v hv hn => (World.cell?_of_block (a := ⟨b, o, none⟩) (hg.block b (World.block_lt_of_cell? W _ hv) (fun e => hn (by injection e)))).trans hv
    exact ⟨ce _ _ _ e1 (by omega), ce _ _ _ e2 (by omega), ce _ _ _ e3 (by omega), ce _ _ _ e4 (by omega), ce _ _ _ e5 (by omega)⟩
  have HG9 := Lib.hid HKG
  clear HKG
  go_region_held3 (fun W => W.cell? ⟨w3.heap.size + 1 + 1 + 1, 1, none⟩ = some (.map (some w3.heap.size)) ∧ W.cell? ⟨w4.heap.size, 0, none⟩ = some (.string ⟨#[120]⟩) ∧ W.cell? ⟨bt, ot, none⟩ = some (.int .i64 6) ∧ W.cell? ⟨bt, ot + 1, none⟩ = some (.slice Ad 1 cd) ∧ W.cell? ⟨bt, ot + 2, none⟩ = some (.slice At2 x ct2)) (first | with_reducible exact HK.out _ (Since.refl w7).dr | with_reducible exact HK.out _ hs78 | with_reducible exact HG9.out _ _ hs78 hg9) ((go_at_call 72; (with_reducible refine HOW.out.mono ?_); rintro e w8 ⟨g1, d1, g2, d2, rfl, hT8, l1, l2, l3, hs8⟩; have hs78 : Since w7 w8 := Since.trans (Since.refl w7).dr hs8; obtain ⟨w9, hp9, hm9, hg9⟩ := (mapIs_new (Since.kp (Since.trans HX7.out.below hs78) (HX4.out.b0 rfl))).put (t := 154) (s := ⟨#[120]⟩) Tryz.und154 (by decide) (by omega) (.agg #[.int .i64 6, .slice (some ⟨g1, 0, none⟩) 1 d1, .slice (some ⟨g2, 0, none⟩) x d2])))
  have zd7 : w7.drew.heap.size = w7.heap.size := rfl
  have hb39 : Below w3.heap.size w3 w9 := Below.grown (Below.trans (Below.trans HX4.out.below (Below.mono HX7.out.below (by omega))) (Below.mono hs78 (by omega))) hg9 (by have := hs78.size; omega) (fun k e => by cases e; omega)
  have hrow9 : w9.heap[w3.heap.size + 1 + 1 + 1]? = some (.cells #[.slice none 0 0, .map (some w3.heap.size), .map (some (w3.heap.size + 1)), .slice none 0 0, .slice (some ⟨w3.heap.size + 1 + 1, 0, none⟩) m m, .int .i64 0] 162 (0, 0)) := (hg9.block _ (by have := hs78.size; omega) (fun e => by injection e with e; omega)).trans (Since.kp (Since.trans HX7.out.below hs78) (HX4.out.b3 rfl))
  have hmap9 : w9.heap[w3.heap.size + 1]? = some (.map #[] 0) := (hg9.block _ (by have := hs78.size; omega) (fun e => by injection e with e; omega)).trans (Since.kp (Since.trans HX7.out.below hs78) (HX4.out.b1 rfl))
  have har9 : w9.heap[w3.heap.size + 1 + 1]? = some (.cells (madeCells #[.int .u8 0] m) 5 (0, 0)) := (hg9.block _ (by have := hs78.size; omega) (fun e => by injection e with e; omega)).trans (Since.kp (Since.trans HX7.out.below hs78) (HX4.out.b2 rfl))
  have hT9 : TnOk w9 (some ⟨g1, 0, none⟩) (some ⟨g2, 0, none⟩) x ds := ⟨hT8.len, hT8.lo, hT8.hi, by
      obtain ⟨b, o, e, q1, q2⟩ := hT8.dim
      cases e
      exact ⟨g1, 0, rfl, Nat.lt_of_lt_of_le q1 hg9.size, (World.cell?_of_block (a := ⟨g1, 0, none⟩) (hg9.block _ q1 (fun e => by have e2 := Option.some.inj e; dsimp only at e2; omega))).trans q2⟩, fun j d hj => by
      obtain ⟨b, o, e, q⟩ := hT8.nums j d hj
      cases e
      exact ⟨g2, 0, rfl, (World.cell?_of_block (a := ⟨g2, 0 + j, none⟩) (hg9.block _ (World.block_lt_of_cell? w8 _ q) (fun e => by have e2 := Option.some.inj e; dsimp only at e2; omega))).trans q⟩, hT8.sm⟩
  have hsw9 : Since w w9 := Below.trans HX3.out.below (Below.mono hb39 HX3.out.below.size)
  have z79 : w7.heap.size ≤ w9.heap.size := Nat.le_trans hs78.size hg9.size
  have HB39 := Lib.hid hb39
  have HR9 := Lib.hid hrow9
  have HM9 := Lib.hid hm9
  have HMA := Lib.hid hmap9
  have HAR := Lib.hid har9
  have HT9 := Lib.hid hT9
  have HSW9 := Lib.hid hsw9
  have hgr := hb39.block
  have r3 : w9.cell? ⟨w.heap.size, 3, none⟩ = some (.slice Ao l.length co) := cell_of_row _ _ 3 _ 33 (0, 0) ((hb39.block _ z3').trans (HX3.out.b0 rfl))
  have r4 : w9.cell? ⟨w.heap.size, 4, none⟩ = some (.slice none 0 0) := cell_of_row _ _ 4 _ 33 (0, 0) ((hb39.block _ z3').trans (HX3.out.b0 rfl))
  clear hb39 hrow9 hm9 hmap9 har9 hT9 hsw9 hgr hT8 hs78 hg9 hp9 hs8 s0 s1 s2 t0 t1 t2 v0 v1 v2 HOW HK HG9
  go_wp2_with fail
  rw [rounds_succ]
  go_wp2_with fail
  refine wp_loop_rounds 1 ?_
  rw [rounds_succ]
  go_wp2_with fail
  have HVO := Lib.hid H.out.outs
  have z39 : w3.heap.size + 4 ≤ w9.heap.size := by omega
  obtain ⟨i28, hi28⟩ : ∃ i, Tryz.prog.info? 28 = some i ∧ i.zero = some (.agg #[.string ⟨#[]⟩, .int .i64 0, .slice none 0 0]) ∧ i.size = 3 ∧ i.bytes = 48 := by
    obtain ⟨i, h1, h2, h3, h4⟩ := info_parts Tryz.info28
    exact ⟨i, h1, h2, h3, h4⟩
  have HI := Lib.hid hi28
  clear hi28 r3 r4
  go_loopw [133] (fun i wr => ∃ k : Nat, k ≤ l.length ∧ i = .int .i64 k ∧ Below w3.heap.size w9 wr ∧ (∀ b, b < w9.heap.size → b ≠ w3.heap.size + 1 + 1 + 1 → wr.heap[b]? = w9.heap[b]?) ∧ ∃ v, wr.heap[w3.heap.size + 1 + 1 + 1]? = some (.cells #[v, .map (some w3.heap.size), .map (some (w3.heap.size + 1)), .slice none 0 0, .slice (some ⟨w3.heap.size + 1 + 1, 0, none⟩) m m, .int .i64 0] 162 (0, 0)) ∧ OZ repVl 28 wr w9.heap.size v ((l.take k).map (fun o => (⟨o.out, 6, [(x : Int)]⟩ : Vl)))) (fun i _ => l.length - (intOf i).toNat)
  case atStart => exact ⟨0, by omega, rfl, Below.refl _ _, fun _ _ _ => rfl, _, HR9.out, oz_nil⟩
  case round =>
    obtain ⟨k, hk, rfl, hb, hkeep, v, hrow, hz⟩ := hrel
    have hswr : Since w wr := Below.trans HSW9.out (hb.mono (by omega))
    by_cases hlt : k < l.length
    · obtain ⟨o, ho⟩ : ∃ o, l[k]? = some o := ⟨_, List.getElem?_eq_getElem hlt⟩
      obtain ⟨bo, oo, eo, hbo, hco⟩ := HVO.out.below hswr
      subst eo
      obtain ⟨Ado, cdo, q0, q1, q2, q3⟩ := hco k o.out (by rw [List.getElem?_map, ho]; rfl)
      obtain ⟨Av, cv, hv⟩ := hz.form
      rw [List.length_map, List.length_take, Nat.min_eq_left (by omega)] at hv
      subst hv
      have hki : (k : Int) < l.length := by omega
      have HB := Lib.hid hb
      have HKP := Lib.hid hkeep
      have HROW := Lib.hid hrow
      have HZ := Lib.hid hz
      have HO := Lib.hid ho
      have HQ3 := Lib.hid q3
      clear hb hkeep hrow hz ho hco q3 hswr
      go_wp2_with fail
      refine newX (F := fun W => Calls _ _ _ W _) ?_
      intro w10 h10
      have HX10 := Lib.hid h10
      clear h10
      refine (clone1_any w10 Ado cdo x (HQ3.out.below HX10.out.below)).mono ?_
      rintro e w11 ⟨A11, c11, rfl, ⟨g11, rfl, l11, u11, q11, -⟩, hs11⟩
      have HX11 := Lib.hid (HX10.out.all hs11)
      have hrow11 := HX11.out.b0 rfl
      obtain ⟨y0, y1, y2, f0, f1, f2⟩ := cells3 hrow11
      have zz11 : wr.heap.size < w11.heap.size := HX11.out.size
      have z10 : wr.heap.size + 1 ≤ w10.heap.size := HX10.out.size
      clear hs11 q0 q1 q2
      go_wp2_with fail
      have hr12 : (w11.setCell ⟨wr.heap.size, 2, none⟩ (.slice (some ⟨g11, 0, none⟩) 1 c11)).heap[wr.heap.size]? = some (.cells #[.string o.out, .int .i64 6, .slice (some ⟨g11, 0, none⟩) 1 c11] 28 (0, 0)) := by simpa using heap_setCell_same w11 wr.heap.size 2 _ 28 (.slice (some ⟨g11, 0, none⟩) 1 c11) hrow11
      have hk12 : ∀ b, b ≠ wr.heap.size → (w11.setCell ⟨wr.heap.size, 2, none⟩ (.slice (some ⟨g11, 0, none⟩) 1 c11)).heap[b]? = w11.heap[b]? := fun b hb => Below.heap_setCell _ _ _ _ hb
      have hz12 : (w11.setCell ⟨wr.heap.size, 2, none⟩ (.slice (some ⟨g11, 0, none⟩) 1 c11)).heap.size = w11.heap.size := by simp [World.setCell]
      have hs12 : Since wr (w11.setCell ⟨wr.heap.size, 2, none⟩ (.slice (some ⟨g11, 0, none⟩) 1 c11)) := Since.set HX11.out.below (Nat.le_refl _) _
      generalize w11.setCell ⟨wr.heap.size, 2, none⟩ (.slice (some ⟨g11, 0, none⟩) 1 c11) = w12 at hr12 hk12 hz12 hs12 ⊢
      have zb9 := HB.out.size
      have hM12 := hs12.kp HROW.out
      have m0 : w12.cell? ⟨w3.heap.size + 1 + 1 + 1, 0, none⟩ = some (.slice Av k cv) := cell_of_row _ _ 0 _ 162 (0, 0) hM12
      have mf0 := frozen_row hM12 0
      obtain ⟨y0, y1, y2, -⟩ := cells3 hr12
      have zM : w3.heap.size + 1 + 1 + 1 < w12.heap.size := by omega
      have hzz : OZ repVl 28 w12.drew w9.heap.size (.slice Av k cv) ((l.take k).map (fun o => (⟨o.out, 6, [(x : Int)]⟩ : Vl))) := HZ.out.below (Since.dr hs12)
      have hR12 : repVl.R w12.drew (fun k => k = g11) [.string o.out, .int .i64 6, .slice (some ⟨g11, 0, none⟩) 1 c11] (⟨o.out, 6, [(x : Int)]⟩ : Vl) := ⟨_, rfl, one_slc (w := w12.drew) (show g11 < w12.heap.size by omega) ((World.cell?_of_block (a := ⟨g11, 0, none⟩) (hk12 g11 (by omega))).trans q11) c11⟩
      have hZc : ∀ q, q = g11 → w9.heap.size ≤ q ∧ q < w12.drew.heap.size ∧ (Value.slice Av k cv).ownBlock ≠ some q := by
        rintro q rfl
        exact ⟨by omega, show q < w12.heap.size by omega, fun e => by have := (HZ.out.row_lt q e).2; omega⟩
      have zd12 : w9.heap.size ≤ w12.drew.heap.size := show w9.heap.size ≤ w12.heap.size by omega
      have HZZ := Lib.hid hzz
      have HR12 := Lib.hid hR12
      have HZC := Lib.hid hZc
      have HM12 := Lib.hid hM12
      have HS12 := Lib.hid hs12
      have hown := HZ.out.row_lt
      have HZ12 := Lib.hid hz12
      clear hr12 hk12 hs12 hM12 hzz hR12 hZc hrow11 f0 f1 f2 q11 hz12
      (go_region_law (first
        | (refine step_append_z w12.drew repVl (⟨o.out, 6, [(x : Int)]⟩ : Vl) [.string o.out, .int .i64 6, .slice (some ⟨g11, 0, none⟩) 1 c11] rfl (.tmp 145) (.tmp 147) 29 rfl 28 i28 _ 48 Tryz.underlying29 HI.out.1 HI.out.2.1 HI.out.2.2.1 HI.out.2.2.2 rfl (by decide) (by decide) w9.heap.size (.slice Av k cv) _ rfl HZZ.out (fun k => k = g11) HR12.out HZC.out w12.drew.heap.size rfl rfl (by rw [List.length_map, List.length_take]; omega) zd12 ?_; intro v' w13 hz13 hg13; obtain ⟨A13, c13, e13⟩ := hz13.form; rw [List.length_append, List.length_map, List.length_take, List.length_singleton, Nat.min_eq_left (by omega)] at e13; subst e13; have g13 := (hg13.block (w3.heap.size + 1 + 1 + 1) zM (fun e => by have := (hown _ e.symm).1; omega)).trans HM12.out; have k0 : w13.cell? ⟨w3.heap.size + 1 + 1 + 1, 0, none⟩ = some (.slice Av k cv) := cell_of_row _ _ 0 _ 162 (0, 0) g13; have kf0 := frozen_row g13 0)))
      all_goals
        have hlo : ∀ q, (Value.slice Av k cv).ownBlock = some q → w9.heap.size ≤ q := fun q e => (hown q e).1
        have hbA : Below w3.heap.size w9 w12.drew := Below.drew (HB.out.trans (Below.mono HS12.out (by omega)))
        have hf1 : Below w3.heap.size w9 (w13.setCell ⟨w3.heap.size + 1 + 1 + 1, 0, none⟩ (.slice A13 (k + 1) c13)) := (hbA.grown hg13 (by omega) (fun q e => by have := hlo q e; omega)).setCell (by show w3.heap.size ≤ w3.heap.size + 1 + 1 + 1; omega) _
        have hf2 : ∀ b, b < w9.heap.size → b ≠ w3.heap.size + 1 + 1 + 1 → (w13.setCell ⟨w3.heap.size + 1 + 1 + 1, 0, none⟩ (.slice A13 (k + 1) c13)).heap[b]? = w9.heap[b]? := fun b hb hn => (Below.heap_setCell _ _ _ _ hn).trans ((hg13.block b (by omega) (fun e => by have := hlo b e.symm; omega)).trans ((HS12.out.block b (by omega)).trans (HKP.out b hb hn)))
        have hf3 : (w13.setCell ⟨w3.heap.size + 1 + 1 + 1, 0, none⟩ (.slice A13 (k + 1) c13)).heap[w3.heap.size + 1 + 1 + 1]? = some (.cells #[.slice A13 (k + 1) c13, .map (some w3.heap.size), .map (some (w3.heap.size + 1)), .slice none 0 0, .slice (some ⟨w3.heap.size + 1 + 1, 0, none⟩) m m, .int .i64 0] 162 (0, 0)) := by simpa using heap_setCell_same w13 (w3.heap.size + 1 + 1 + 1) 0 _ 162 (.slice A13 (k + 1) c13) g13
        have hf4 : OZ repVl 28 (w13.setCell ⟨w3.heap.size + 1 + 1 + 1, 0, none⟩ (.slice A13 (k + 1) c13)) w9.heap.size (.slice A13 (k + 1) c13) ((l.take (k + 1)).map (fun o => (⟨o.out, 6, [(x : Int)]⟩ : Vl))) := by
          rw [List.take_add_one, HO.out, Option.toList_some, List.map_append]
          exact hz13.keep (fun q h1 h2 => Below.heap_setCell _ _ _ _ (by dsimp only; omega)) (by simp [World.setCell])
        have HFF := Lib.hid (And.intro hf1 (And.intro hf2 (And.intro hf3 hf4)))
        clear hf1 hf2 hf3 hf4 hbA hz13 hg13 g13 k0 kf0
        go_wp2_with fail
        exact ⟨⟨k + 1, by omega, by go_num, HFF.out.1, HFF.out.2.1, _, HFF.out.2.2.1, HFF.out.2.2.2⟩, by simp [intOf]; omega⟩
    · obtain rfl : k = l.length := by omega
      rw [List.take_length] at hz
      obtain ⟨Av, cv, hv⟩ := hz.form
      rw [List.length_map] at hv
      subst hv
      have hsw3 : Since w3 wr := HB39.out.trans hb
      obtain ⟨r0, r1, r2, r3, r4, -⟩ := cells5 (Since.kp hsw3 (HX3.out.b0 rfl))
      obtain ⟨b22, o22, e22, hb22, hc22⟩ := HVA3.out
      subst e22
      have HC22 := Lib.hid hc22
      clear hc22
      have HO := Lib.hid (order_new gn An _ Ao cn ci co l x wr (H.out.below hswr))
      have HB := Lib.hid hb
      have HKP := Lib.hid hkeep
      have HROW := Lib.hid hrow
      have HZ := Lib.hid hz
      have HSW3 := Lib.hid hsw3
      have HSWR := Lib.hid hswr
      have hl1 : ((l.length : Int) + 1) - l.length = 1 := by omega
      have hl2 : (((l.length + 1 : Nat) : Int)) - l.length = 1 := by omega
      have hca1 : ¬ (ca : Int) < 1 := by omega
      obtain ⟨q, hq1, hq2, hq3⟩ := cuts x sz hsz
      have HQ1 := Lib.hid (And.intro hq1 (And.intro hq2 hq3))
      clear hq1 hq2 hq3
      clear hb hkeep hrow hz hsw3 hswr
      go_wp2_with fail
      refine HO.out.mono ?_
      rintro e w10 ⟨Ao', co', rfl, hup, hs10, hnew⟩
      have HUP := Lib.hid hup
      have HS10 := Lib.hid hs10
      have HNB := Lib.hid (show ∀ a, Ao' = some a → w3.heap.size + 1 + 1 + 1 < a.block from fun a e => Nat.lt_of_lt_of_le (Array.getElem?_eq_some_iff.1 HROW.out).1 (hnew a e))
      clear hnew hup hs10 r0 r1 r2 r3 r4
      go_wp2_with fail
      have hh10 : w.heap.size ≤ w10.heap.size := by have := HSWR.out.size; have := HS10.out.size; omega
      have hM10 := HS10.out.block _ (Array.getElem?_eq_some_iff.1 HROW.out).1 |>.trans HROW.out
      have hA10 := (HS10.out.block _ (by have := HB.out.size; omega)).trans ((HKP.out (w3.heap.size + 1) (by omega) (by omega)).trans HMA.out)
      have hsw10 : Since w w10 := HSWR.out.trans HS10.out
      have hs310 : Since w3 w10 := HSW3.out.trans HS10.out
      have HSW10 := Lib.hid hsw10
      have HS310 := Lib.hid hs310
      have HM10 := Lib.hid hM10
      have HA10 := Lib.hid hA10
      clear hM10 hA10 hsw10 hs310
      go_loopw [166] (fun i wz => ∃ k : Nat, k ≤ l.length ∧ i = .int .i64 k ∧ ∃ v3 wl, NwSt w3 w10 wz (w3.heap.size + 1 + 1 + 1) (w3.heap.size + 1 + 1) (w3.heap.size + 1) w3.heap.size m x sz q l Av cv k v3 wl) (fun i _ => l.length - (intOf i).toNat)
      case atStart =>
        refine ⟨0, by omega, rfl, _, [], Below.refl _ _, fun _ _ _ _ => rfl, HM10.out, rfl, oz_nil, wlOk_nil _ _ _, fun _ => none, mapIs_new HA10.out, rfl, fun i o _ => ?_⟩
        rw [if_neg (by omega)]
      case round =>
        obtain ⟨k, hk, rfl, v3, wl, hs⟩ := hrel
        have hs3z : Since w3 wr := Below.trans HS310.out hs.base
        have hswz : Since w wr := HX3.out.below.trans (hs3z.mono (by omega))
        obtain ⟨A3, c3, e3⟩ := hs.own.form
        rw [hs.len] at e3
        subst e3
        by_cases hlt : k < l.length
        · have hF := H.out.below hswz
          obtain ⟨bq, oq, eq, hbq, hcq⟩ := HUP.out
          subst eq
          have hq1 : w3.heap.size + 1 + 1 + 1 < bq := HNB.out _ rfl
          have cq0 := (World.cell?_of_block (a := ⟨bq, oq + k, none⟩) (hs.keep bq hbq (by omega) (by omega))).trans (hcq k hlt)
          obtain ⟨bn, offn, en, hbn, hcn⟩ := hF.nodes
          subst en
          obtain ⟨o, ho⟩ : ∃ o, l[k]? = some o := ⟨_, List.getElem?_eq_getElem hlt⟩
          have hmem := List.mem_of_getElem? ho
          obtain ⟨nm, A', c', q0, q1, q2, q3, q4, q5⟩ := hcn k o ho
          obtain ⟨r0, r1, r2, r3, r4, -⟩ := cells5 (hs3z.kp (HX3.out.b0 rfl))
          have hki : (k : Int) < l.length := by omega
          have HXs := Lib.hid q5
          have HMm := Lib.hid (hF.ok.ops o hmem).cases
          have HOo := Lib.hid ho
          have HS := Lib.hid hs
          have HSWZ := Lib.hid hswz
          have HS3Z := Lib.hid hs3z
          clear hs hswz hs3z hF hcq hcn q5 ho hmem hq1
          go_wp2_with fail
          refine newX (F := fun W => Code.wp _ _ _ _ W) ?_
          intro w11 h11
          obtain ⟨a0, a1, a2, a3, a4, f0, f1, f2, f3, f4⟩ := cells5 (h11.b0 rfl)
          have HF11 := Lib.hid h11.drew
          have HX11 := Lib.hid (show Xs w11.drew A' o.m from HXs.out.below h11.below.drew)
          clear h11
          go_cut [] from 176 to 183 (fun wx => ∃ b5 o5 c5, Fx wr wx [some (.cells #[.string o.op, .string nm, .slice (some ⟨b5, o5, none⟩) o.m c5, .string o.out, .slice none 0 0] 37)] ∧ wr.heap.size + 1 ≤ b5 ∧ b5 < wx.heap.size ∧ ∀ j, j < o.m → wx.cell? ⟨b5, o5 + j, none⟩ = some (.string ⟨#[120]⟩))
          case first =>
            go_region_with
              (first
                | (go_at_call 73; refine (cloneX _ _ _ _ HX11.out HMm.out).mono ?_; rintro e w12 ⟨A5, c5, rfl, hx5, hb5⟩; have h5 := HF11.out.all hb5; obtain ⟨a0, a1, a2, a3, a4, f0, f1, f2, f3, f4⟩ := cells5 (h5.b0 rfl))
                | (go_at_call 74; refine (clone74 _ _).mono ?_; rintro e w13 ⟨rfl, rfl⟩))
            all_goals
              have HXn := Lib.hid hx5
              have z11 : wr.heap.size + 1 ≤ w11.drew.heap.size := HF11.out.size
              clear hx5 hb5 a0 a1 a2 a3 a4 f0 f1 f2 f3 f4
              refine node_set1 (F := fun W => Exit.then _ _ _ _ W) h5 _ ?_
              intro w14 h14 hk14 hs14
              obtain ⟨b5, o5, rfl, j0, j1, j2⟩ := HXn.out.keep (w' := w14) (fun k h1 _ => hk14 k (by omega)) (Nat.le_of_eq hs14.symm)
              go_wp2_with fail
              go_meet
              exact ⟨_, _, _, h14, by omega, j1, j2⟩
          case rest =>
            obtain ⟨b5, o5, c5, h14, j0, j1, j2⟩ := hcut
            obtain ⟨a0, a1, a2, a3, a4, -⟩ := cells5 (h14.b0 rfl)
            have hsi : Since wr wc := h14.below
            have HJ := Lib.hid (And.intro j1 j2)
            have HSI := Lib.hid hsi
            have H14 := Lib.hid h14
            have n14 : wr.heap.size < wc.heap.size := h14.size
            clear h14 hsi j1 j2 HF11 HX11 r0 r1 r2 r3 r4
            go_wp2_with fail
            refine wp_loop_rounds 1 ?_
            rw [rounds_succ]
            go_wp2_with fail
            obtain ⟨a0, a1, a2, a3, a4, -⟩ := cells5 (H14.out.b0 rfl)
            have hs3c : Since w3 wc := HS3Z.out.trans HSI.out
            obtain ⟨s0, s1, s2, -⟩ := cells3 (hs3c.kp (HX3.out.b1 rfl))
            obtain ⟨Adv, cdv, y0, y1, y2, y3⟩ := HC22.out (k + 1) o.out (by rw [List.getElem?_cons_succ, List.getElem?_map, HOo.out]; rfl)
            have ce : ∀ i v, w3.cell? ⟨b22, i, none⟩ = some v → wc.cell? ⟨b22, i, none⟩ = some v := fun i v hv => (hs3c.cell (p := ⟨b22, i, none⟩) hb22).trans hv
            have y0 : wc.cell? ⟨b22, o22 + 3 + k * 3, none⟩ = some (.string o.out) := by rw [show o22 + 3 + k * 3 = o22 + (k + 1) * 3 by omega]; exact ce _ _ y0
            have y1 : wc.cell? ⟨b22, o22 + 3 + k * 3 + 1, none⟩ = some (.int .i64 6) := by rw [show o22 + 3 + k * 3 = o22 + (k + 1) * 3 by omega]; exact ce _ _ y1
            have y2 : wc.cell? ⟨b22, o22 + 3 + k * 3 + 2, none⟩ = some (.slice Adv 1 cdv) := by rw [show o22 + 3 + k * 3 = o22 + (k + 1) * 3 by omega]; exact ce _ _ y2
            have HY3 := Lib.hid y3
            obtain ⟨bp, ep, hbp, hcp2⟩ := HP.out.below (HSWZ.out.trans HSI.out)
            subst ep
            obtain ⟨p0, p1, p2⟩ := hcp2 k o HOo.out
            obtain ⟨mk, hmk⟩ : ∃ mk, mk = k * up8 (4 * x) := ⟨_, rfl⟩
            have HMK := Lib.hid hmk
            rw [← hmk] at p1
            have HS3C := Lib.hid hs3c
            clear hs3c ce y3 hcp2 hmk
            go_region
            refine newXd (F := fun W => Exit.then _ _ _ _ W) ?_
            intro w15 h15
            have e7 : w15.cell? ⟨wc.heap.size, 7, none⟩ = some (.slice Adv 1 cdv) := cell_of_row _ _ 7 _ 170 (0, 0) (h15.b0 rfl)
            have HX15 := Lib.hid h15
            have h42 := count1_any w15 Adv cdv x (HY3.out.below (Below.trans HS3C.out (h15.below.mono HS3C.out.size))) (by omega) (by omega)
            have h76 := steps_any k x sz (by omega) hx2 hx1 hsz2 hsz w15
            have H76 := Lib.hid h76
            have H42 := Lib.hid h42
            clear h15 h42 h76 a0 a1 a2 a3 a4 s0 s1 s2 y0 y1 y2 p0 p1 p2
            go_wp2_with (first | (go_at_call 42; refine H42.out.mono ?_; rintro e w16 ⟨rfl, rfl⟩) | fail)
            refine H76.out.mono ?_
            rintro e w17 ⟨A7, c7, q', rfl, ho7, u1, u2, u3, hs17⟩
            obtain rfl := cuts_one HQ1.out.1 HQ1.out.2.2 u1 u3
            have hq0 : 0 < q := by
              rcases Nat.eq_zero_or_pos q with h | h
              · subst h
                omega
              · exact h
            obtain ⟨S, c7', e7', S1, S2, S3⟩ := ho7.raw (by omega) (by rw [stepsR_len]; exact hq0)
            rw [stepsR_len] at e7'
            simp only [Value.slice.injEq] at e7'
            obtain ⟨rfl, -, rfl⟩ := e7'
            have HX17 := Lib.hid (HX15.out.all hs17)
            have g17 := HX17.out.b0 rfl
            have f11 := frozen_row g17 11
            have e11 : w17.cell? ⟨wc.heap.size, 11, none⟩ = some (.slice none 0 0) := cell_of_row _ _ 11 _ 170 (0, 0) g17
            have HS3' := Lib.hid S3
            have n17 : wc.heap.size < w17.heap.size := HX17.out.size
            clear ho7 u1 u2 u3 hs17 e7 S3
            go_wp2_with fail
            have g18 := heap_setCell_same _ _ 11 _ _ (.slice (some ⟨S, 0, none⟩) q c7) g17
            have k18 : ∀ b, b ≠ wc.heap.size → (w17.setCell ⟨wc.heap.size, 11, none⟩ (.slice (some ⟨S, 0, none⟩) q c7)).heap[b]? = w17.heap[b]? := fun b hb => Below.heap_setCell _ _ _ _ hb
            have z18 : (w17.setCell ⟨wc.heap.size, 11, none⟩ (.slice (some ⟨S, 0, none⟩) q c7)).heap.size = w17.heap.size := by simp [World.setCell]
            have s18 : Since wc (w17.setCell ⟨wc.heap.size, 11, none⟩ (.slice (some ⟨S, 0, none⟩) q c7)) := Since.set HX17.out.below (Nat.le_refl _) _
            generalize w17.setCell ⟨wc.heap.size, 11, none⟩ (.slice (some ⟨S, 0, none⟩) q c7) = w18 at g18 k18 z18 s18 ⊢
            have g18 : w18.heap[wc.heap.size]? = some (.cells #[.string o.op, .string nm, .slice (some ⟨b5, o5, none⟩) o.m c5, .string o.out, .slice none 0 0, .string o.out, .int .i64 6, .slice Adv 1 cdv, .string o.out, .int .i64 mk, .int .i64 (4 * (x : Int)), .slice (some ⟨S, 0, none⟩) q c7, .slice none 0 0, .int .i64 0, .int .i64 0, .slice none 0 0] 170 (0, 0)) := g18
            have e11 : w18.cell? ⟨wc.heap.size, 11, none⟩ = some (.slice (some ⟨S, 0, none⟩) q c7) := cell_of_row _ _ 11 _ 170 (0, 0) g18
            have e12 : w18.cell? ⟨wc.heap.size, 12, none⟩ = some (.slice none 0 0) := cell_of_row _ _ 12 _ 170 (0, 0) g18
            have e13 : w18.cell? ⟨wc.heap.size, 13, none⟩ = some (.int .i64 0) := cell_of_row _ _ 13 _ 170 (0, 0) g18
            have f12 := frozen_row g18 12
            have f13 := frozen_row g18 13
            have n18 : wc.heap.size < w18.heap.size := by omega
            have HQQ := Lib.hid (And.intro k18 (And.intro z18 s18))
            have G18 := Lib.hid g18
            have hmb2 := make_bools q (by have := HQ1.out.2.1; omega)
            clear k18 z18 s18 g18 g17 f11
            go_region
            refine newSet2 (F := fun W => Exit.then _ _ _ _ W) G18.out ?_
            intro w19 g19 d19 k19 z19 b19
            have g19 : w19.heap[wc.heap.size]? = some (.cells #[.string o.op, .string nm, .slice (some ⟨b5, o5, none⟩) o.m c5, .string o.out, .slice none 0 0, .string o.out, .int .i64 6, .slice Adv 1 cdv, .string o.out, .int .i64 mk, .int .i64 (4 * (x : Int)), .slice (some ⟨S, 0, none⟩) q c7, .slice (some ⟨w18.heap.size, 0, none⟩) q q, .int .i64 q, .int .i64 0, .slice none 0 0] 170 (0, 0)) := g19
            have s19 : Since wc w19 := b19 _ _ HQQ.out.2.2 (Nat.le_refl _) (by have := HQQ.out.2.2.size; omega)
            have h19 := H14.out.all s19
            have sr19 : Since wr w19 := HSI.out.trans s19
            have m2 : w19.cell? ⟨w3.heap.size + 1 + 1 + 1, 2, none⟩ = some (.map (some (w3.heap.size + 1))) := cell_of_row _ _ 2 _ 162 (0, 0) (sr19.kp HS.out.row)
            obtain ⟨fa, hfm, hfx, hfo⟩ := HS.out.at_
            have hl := (hfm.below sr19).look2 (s := ⟨#[120]⟩) Tryz.und142 (zero3 _) (by decide)
            rw [hfx] at hl
            simp only [Option.isSome_none, Option.getD_none] at hl
            obtain ⟨a0, a1, a2, a3, a4, -⟩ := cells5 (h19.b0 rfl)
            have hfk : fa o.out = none := by rw [hfo k o HOo.out, if_neg (Nat.lt_irrefl k)]
            obtain ⟨w20, hp20, hm20, hg20⟩ := ((hfm.below sr19).below (Since.dr (Since.refl w19))).put (t := 142) (s := o.out) Tryz.und142 (H.out.ok.short o (List.mem_of_getElem? HOo.out)) (by omega) (.int .i64 k)
            rw [hfk] at hm20
            simp only [Option.isSome_none, Bool.false_eq_true, if_false] at hm20
            have C0 := Lib.hid (show ∀ j, j < o.m → w19.cell? ⟨b5, o5 + j, none⟩ = some (.string ⟨#[120]⟩) from fun j hj => (s19.cell (p := ⟨b5, o5 + j, none⟩) HJ.out.1).trans (HJ.out.2 j hj))
            have HFA := Lib.hid (And.intro hfx (And.intro hfo (And.intro hm20 hg20)))
            have HWK := Lib.hid (And.intro g19 (And.intro d19 (And.intro k19 (And.intro z19 (And.intro s19 sr19)))))
            have hmc := HMm.out
            clear g19 d19 k19 z19 b19 h19 sr19 hfm hfx hfo hfk hm20 hg20 s19 e11 e12 e13 f12 f13 hmb2
            go_wp2_with fail
            go_loop [262] (fun i => ∃ j : Nat, j ≤ o.m ∧ i = .int .i64 j) (fun i => o.m - (intOf i).toNat)
            case atStart => exact ⟨0, by omega, rfl⟩
            case round =>
              obtain ⟨j, hj, rfl⟩ := hrel
              by_cases hjl : j < o.m
              · have cj := C0.out j hjl
                have hji : (j : Int) < o.m := by omega
                go_wp2_with fail
                go_round
                case rel => exact ⟨j + 1, by omega, by go_num⟩
                case measure => simp [intOf]; omega
              · obtain rfl : j = o.m := by omega
                clear hl
                go_wp2_with fail
                go_region
                have zM10 : w3.heap.size + 1 + 1 + 1 < w10.heap.size := (Array.getElem?_eq_some_iff.1 HM10.out).1
                have z15 := HX15.out.size
                simp only [List.length_singleton] at z15
                obtain ⟨g19, d19, k19, z19, s19, sr19⟩ := HWK.out
                obtain ⟨hfx, hfo, hm20, hg20⟩ := HFA.out
                obtain ⟨n1, n2, n3, n4, n5, n6, n7, hz20⟩ := HS.out.mid (by omega) (by omega) sr19 hg20
                have q18 := HQQ.out.2.1
                have jb5 := HJ.out.1
                have hone : One w10 Adv x := HY3.out.below HS310.out
                have hon : On (fun k => k ≠ w3.heap.size + 1 + 1 + 1 ∧ k ≠ w3.heap.size + 1 + 1 ∧ k ≠ w3.heap.size + 1) Adv := fun b off e => by
                  obtain ⟨b', off', e', hb', -⟩ := HY3.out
                  rw [e] at e'
                  cases e'
                  exact ⟨by omega, by omega, by omega⟩
                have hWR : WkR w10 (w3.heap.size + 1 + 1 + 1) (w3.heap.size + 1 + 1) (w3.heap.size + 1) x sz q w20 (fun z => z = wc.heap.size ∨ z = S ∨ z = w18.heap.size ∨ z = b5) ⟨wc.heap.size, S, w18.heap.size, b5, k, o⟩ :=
                  wkR_made (by rw [← HMK.out]; exact (n2 _ (by omega) (by omega)).trans g19) (fun j hj => (World.cell?_of_block (a := ⟨b5, o5 + j, none⟩) (n2 b5 (by omega) (by omega))).trans (C0.out j hj)) hone hon
                    (fun j cs hj i hi => (World.cell?_of_block (a := ⟨S, j * 3 + i, none⟩) ((n2 S (by omega) (by omega)).trans ((k19 S (by omega) (by omega)).trans (HQQ.out.1 S (by omega))))).trans (HS3'.out j cs hj i hi)) ((n2 _ (by omega) (by omega)).trans d19)
                have hown : ∀ b, (Value.slice A3 k c3).ownBlock = some b → b < wr.heap.size := fun b e => (HS.out.own.row_lt b e).2
                have hzc : ∀ z, (z = wc.heap.size ∨ z = S ∨ z = w18.heap.size ∨ z = b5) → w10.heap.size ≤ z ∧ z < w20.heap.size ∧ (Value.slice A3 k c3).ownBlock ≠ some z := by
                  rintro z (rfl | rfl | rfl | rfl)
                  all_goals exact ⟨by omega, by omega, fun e => by have := hown _ e; omega⟩
                have hdk : Wd.ok wr.heap.size w19.heap.size ⟨wc.heap.size, S, w18.heap.size, b5, k, o⟩ := ⟨⟨by dsimp only; omega, by dsimp only; omega, by dsimp only; omega, by dsimp only; omega⟩, ⟨by dsimp only; omega, by dsimp only; omega, by dsimp only; omega, by dsimp only; omega⟩, ⟨by dsimp only; omega, by dsimp only; omega, by dsimp only; omega, by dsimp only; omega, by dsimp only; omega⟩⟩
                have HEND := Lib.hid (fun (w21 : World) (v' : Value) (h1 : OZ (repWk w10 (w3.heap.size + 1 + 1 + 1) (w3.heap.size + 1 + 1) (w3.heap.size + 1) x sz q) 168 w21 w10.heap.size v' (wl ++ [⟨wc.heap.size, S, w18.heap.size, b5, k, o⟩])) (h2 : w20.grownBy w21 (Value.slice A3 k c3).ownBlock) => HS.out.step H.out.ok HOo.out (by omega) zM10 (by omega) ⟨by omega, by omega, by omega⟩ sr19 hg20 hfx hfo hm20 ⟨wc.heap.size, S, w18.heap.size, b5, k, o⟩ rfl rfl hdk h1 h2)
                have m3 : w20.cell? ⟨w3.heap.size + 1 + 1 + 1, 3, none⟩ = some (.slice A3 k c3) := cell_of_row _ _ 3 _ 162 (0, 0) n7
                have HR20 := Lib.hid n7
                have HZ20 := Lib.hid hz20
                have HWR := Lib.hid hWR
                have HZC := Lib.hid hzc
                have hwl := HS.out.len
                have HWL := Lib.hid hwl
                have zM20 : w3.heap.size + 1 + 1 + 1 < w20.heap.size := by omega
                have zw20 : w10.heap.size ≤ w20.heap.size := by omega
                have HOWN := Lib.hid (fun b e => (HS.out.own.row_lt b e).1)
                clear g19 d19 k19 z19 s19 sr19 hfx hfo hm20 hg20 n1 n2 n7 hz20 hone hon hWR hown hzc hdk q18 hp20 m2 a0 a1 a2 a3 a4 hwl
                go_wp2_with (at_builtin; refine wpList_append_z w20 (repWk w10 (w3.heap.size + 1 + 1 + 1) (w3.heap.size + 1 + 1) (w3.heap.size + 1) x sz q) ⟨wc.heap.size, S, w18.heap.size, b5, k, o⟩ [.pointer (some ⟨wc.heap.size, 0, none⟩)] rfl (.tmp 307) (.tmp 309) 155 rfl 168 i168 _ 8 Tryz.underlying155 HI8.out.1 HI8.out.2.1 HI8.out.2.2.1 HI8.out.2.2.2 rfl Nat.one_pos (by decide) w10.heap.size (.slice A3 k c3) wl rfl HZ20.out (fun z => z = wc.heap.size ∨ z = S ∨ z = w18.heap.size ∨ z = b5) ⟨rfl, HWR.out⟩ HZC.out w20.heap.size rfl rfl (by rw [HWL.out]; omega) zw20 ?_; intro v' w21 hz21 hg21; obtain ⟨A21, c21, e21⟩ := hz21.form; rw [List.length_append, List.length_singleton, HWL.out] at e21; subst e21; have HFIN := Lib.hid (HEND.out _ _ hz21 hg21); have r21 := (hg21.block _ zM20 (fun e => by have := HOWN.out _ e.symm; omega)).trans HR20.out; have k3 := cell_of_row _ _ 3 _ 162 (0, 0) r21; have kf3 := frozen_row r21 3; clear hz21 hg21 r21)
                exact ⟨⟨k + 1, by omega, by go_num, _, _, HFIN.out⟩, by simp [intOf]; omega⟩
        · obtain rfl : k = l.length := by omega
          have z910 := Nat.le_trans HB.out.size HS10.out.size
          have hkp : ∀ b, b < w9.heap.size → b ≠ w3.heap.size + 1 + 1 + 1 → b ≠ w3.heap.size + 1 → wr.heap[b]? = w9.heap[b]? := fun b h1 h2 h3 => (hs.keep b (by omega) h2 h3).trans ((HS10.out.block b (Nat.lt_of_lt_of_le h1 HB.out.size)).trans (HKP.out b h1 h2))
          have hg19 : g1 < w9.heap.size := by
            obtain ⟨b, off, e, q1, -⟩ := HT9.out.dim
            cases e
            exact q1
          have hg29 : g2 < w9.heap.size := by
            obtain ⟨d, hd⟩ : ∃ d, ds[0]? = some d := ⟨_, List.getElem?_eq_getElem (by rw [HT9.out.len]; omega)⟩
            obtain ⟨b, off, e, q1⟩ := HT9.out.nums 0 d hd
            cases e
            exact World.block_lt_of_cell? w9 _ q1
          have l1' : w7.heap.size ≤ g1 := l1
          have l2' : w7.heap.size ≤ g2 := l2
          have z310 := HS310.out.size
          have hgo : ∀ g, w7.heap.size ≤ g → g < w9.heap.size → g < w10.heap.size ∧ g ≠ w3.heap.size + 1 + 1 + 1 ∧ g ≠ w3.heap.size + 1 + 1 := fun g h1 h2 => ⟨by omega, by omega, by omega⟩
          have hsl : IsSlc repVl w10 (fun k => w9.heap.size ≤ k ∧ k < w10.heap.size) (.slice Av l.length cv) ((l.map (·.out)).map (fun s => (⟨s, 6, [(x : Int)]⟩ : Vl))) := by
            rw [List.map_map]
            exact (HZ.out.below HS10.out).isSlc (show 0 < 3 by omega)
          obtain ⟨Av', cv', ev, hvx⟩ := vlX_of hsl (by rw [List.length_map]; omega) (fun k hk => hk.2)
          rw [List.length_map] at ev
          simp only [Value.slice.injEq] at ev
          obtain ⟨rfl, -, rfl⟩ := ev
          have hvx2 : VlX wr (fun k => k < w10.heap.size ∧ k ≠ w3.heap.size + 1 + 1 + 1 ∧ k ≠ w3.heap.size + 1 + 1) Av (l.map (·.out)) x :=
            (hvx.mono (Z' := fun k => w9.heap.size ≤ k ∧ k < w10.heap.size ∧ k ≠ w3.heap.size + 1 + 1 + 1 ∧ k ≠ w3.heap.size + 1 + 1) (fun k _ hk => ⟨hk.1, hk.2, by omega, by omega⟩)).keep (fun k h1 h2 => hs.keep k h1 h2.2.2.1 (by omega)) hs.base.size |>.mono (fun k _ hk => hk.2)
          obtain ⟨fa, a1, a2, a3⟩ := hs.at_
          obtain ⟨L, hLM, hLb, hLt, hmc⟩ := new_mc (base := w3.heap.size) H.out.ok (H.out.below hswz).gl hs.base.size hx1 (by have := HQ1.out.2.1; omega) hs.row hvx2 (HM9.out.keep (hkp _ (by omega) (by omega) (by omega))) (by rw [upd, if_pos rfl])
            ⟨HT9.out.len, HT9.out.lo, HT9.out.hi, HT9.out.dim.stay (Z := fun k => w7.heap.size ≤ k) (fun b off e => by cases e; exact l1) (fun k h1 h2 => hkp k h1 (by omega) (by omega)) (Nat.le_trans z910 hs.base.size), HT9.out.nums.stay (Z := fun k => w7.heap.size ≤ k) (fun b off e => by cases e; exact l2) (fun k h1 h2 => hkp k h1 (by omega) (by omega)), HT9.out.sm⟩ (hgo g1 l1' hg19) (hgo g2 l2' hg29) a1 a2 (fun i o hi => by rw [a3 i o hi, if_pos (List.getElem?_eq_some_iff.1 hi).1])
            ((hkp _ (by omega) (by omega) (by omega)).trans HAR.out) (size_madeCells _ _) HMM.out (by omega) ⟨⟨by omega, by omega, by omega, by omega⟩, ⟨by omega, by omega, by omega, by omega, by omega⟩, by have := H.out.gl.lt; omega, by omega, by omega⟩ hs.own hs.len hs.wlo
            (fun Ad h1 h2 => h1.stay h2 (fun k h3 h4 => hs.keep k h3 h4.1 h4.2.2) hs.base.size) (fun b off h1 => by obtain ⟨b', off', e, q1, -⟩ := h1; cases e; exact q1)
          have HMC := Lib.hid hmc
          have HQ := HQ1.out
          have HQQ := Lib.hid HQ
          clear hmc hvx hvx2 hkp hgo HQ a1 a2 a3 hs hs3z HUP
          have HSWZ := Lib.hid hswz
          clear hswz
          go_wp2_with fail
          go_ret2
          exact ⟨L, q, by rw [hLM]; rfl, HMC.out, HQQ.out.1, by have := HQQ.out.2.1; omega, HQQ.out.2.2, by omega, hLt, HSWZ.out⟩
end Go.Proofs.YtbilddeepnnogaaGreatDoor
