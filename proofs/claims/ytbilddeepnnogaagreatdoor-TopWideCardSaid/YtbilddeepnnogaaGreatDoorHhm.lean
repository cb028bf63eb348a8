import Derived.Test.YtbilddeepnnogaaGreatDoorHg
import Derived.BigQuiet
set_option linter.unusedVariables false
set_option linter.unusedSimpArgs false
/- A layout fits: all places are as they must be. -/
section
set_option linter.unusedVariables false
set_option maxRecDepth 100000
namespace Go.Proofs.YtbilddeepnnogaaGreatDoor
open Go.RowKit Go.Shelf

theorem sup_any (k : Nat) (h : k < 1000) (w : World) : Calls Tryz.prog 218 #[.int .i64 k] w fun e w' => e = .returned (.int .i64 (up8 k)) ∧ w' = w := by
  have hu := up_at h
  have hk : (k : Int) < 1000 := by omega
  go_enter Tryz.func218, Tryz.ntmps218
  go_wp2_with fail
  go_ret
  show Ending.returned (.int .i64 (bits BinOp.andNot .i64 ((k : Int) + 8 - 1) 7)) = _ ∧ _
  rw [show (k : Int) + 8 - 1 = (k : Int) + 7 by omega, hu]
  exact ⟨rfl, rfl⟩
set_option maxHeartbeats 3200000 in
theorem places_any (ck : Nat) (An Av Ap : Option Addr) (cn cv cp : Nat) (l : List Op1) (hl : FlatL l) (x : Nat) (hx : x ≤ 30) (hx1 : 1 ≤ x) (W : World) (h0 : W.cell? ⟨ck, 0, none⟩ = some (.slice An l.length cn)) (h1 : W.cell? ⟨ck, 1, none⟩ = some (.slice Av l.length cv)) (h4 : W.cell? ⟨ck, 4, none⟩ = some (.int .i64 (l.length * up8 (4 * x) : Nat))) (h5 : W.cell? ⟨ck, 5, none⟩ = some (.slice Ap l.length cp)) (hn : NdAt W An l) (hv : VlAt W Av (l.map (·.out)) x) (hp : PlcAt W Ap l x) :
    Calls Tryz.prog 142 #[.pointer (some ⟨ck, 0, none⟩)] W fun e W' => e = .returned (.bool true) ∧ Since W W' := by
  have nc := World.block_lt_of_cell? W ⟨ck, 0, none⟩ h0
  dsimp only at nc
  have hnl : (l.length : Int) ≤ 5 := by have := hl.most; omega
  have hu : up8 (4 * x) ≤ 120 := up8_le (by omega)
  have hg : 4 * x ≤ up8 (4 * x) := up8_ge _
  obtain ⟨u8, hu8⟩ : ∃ q, up8 (4 * x) = q * 8 := ⟨_, rfl⟩
  generalize hm : l.length * up8 (4 * x) = m at h4
  have hmb : m ≤ 5 * 120 := by rw [← hm]; exact Nat.mul_le_mul (by have := hl.most; omega) hu
  have hm8 : m % 8 = 0 := by rw [← hm, hu8, ← Nat.mul_assoc]; exact Nat.mul_mod_left _ _
  have hmi : (m : Int) ≤ 600 := by omega
  have HN := Lib.hid hn
  have HV := Lib.hid hv
  have HP := Lib.hid hp
  have HC := Lib.hid (And.intro h0 (And.intro h1 (And.intro h4 h5)))
  have hmr : (m : Int).tmod 8 = 0 := by rw [Int.tmod_eq_emod_of_nonneg (by omega)]; omega
  clear hn hv hp
  go_enter Tryz.func142, Tryz.ntmps142
  go_wp2_with fail
  go_quiet (fail)
  go_wp2_with fail
  go_loopw [3, 43] (fun v i wr => ∃ j : Nat, j ≤ l.length ∧ i = .int .i64 j ∧ v = .int .i64 (j * up8 (4 * x) : Nat) ∧ Since W wr) (fun _ i _ => l.length - (intOf i).toNat)
  case atStart => exact ⟨0, by omega, rfl, by rw [Nat.zero_mul]; rfl, (Since.refl W).drN _⟩
  case round =>
    obtain ⟨j, hj, rfl, rfl, hs⟩ := hrel
    have h0 := (hs.cell (p := ⟨ck, 0, none⟩) nc).trans HC.out.1
    have h1 := (hs.cell (p := ⟨ck, 1, none⟩) nc).trans HC.out.2.1
    have h4 := (hs.cell (p := ⟨ck, 4, none⟩) nc).trans HC.out.2.2.1
    have h5 := (hs.cell (p := ⟨ck, 5, none⟩) nc).trans HC.out.2.2.2
    have ncr : ck < wr.heap.size := Nat.lt_of_lt_of_le nc hs.size
    by_cases hlt : j < l.length
    · obtain ⟨o, ho⟩ : ∃ o, l[j]? = some o := ⟨_, List.getElem?_eq_getElem hlt⟩
      obtain ⟨bp, rfl, hbp, hcp⟩ := HP.out.below hs
      obtain ⟨p0, p1, p2⟩ := hcp j o ho
      obtain ⟨bv, ov, rfl, hbv, hcv⟩ := HV.out.below hs
      obtain ⟨Ad, cd, v0, v1, v2, v3⟩ := hcv j o.out (by rw [List.getElem?_map, ho]; rfl)
      obtain ⟨bn, on, rfl, hbn, hcn⟩ := HN.out.below hs
      obtain ⟨nm, A', c', q0, q1, q2, q3, q4, q5⟩ := hcn j o ho
      have HW := Lib.hid (fun W (hW : Since wr W) => width_any o.out Ad cd x W (v3.below hW) (by omega) (by omega))
      have hju : j * up8 (4 * x) ≤ 5 * 120 := Nat.mul_le_mul (by omega) hu
      have hj1 : j * up8 (4 * x) + up8 (4 * x) ≤ m := by rw [← hm, show j * up8 (4 * x) + up8 (4 * x) = (j + 1) * up8 (4 * x) by rw [Nat.add_mul, Nat.one_mul]]; exact Nat.mul_le_mul_right _ (by omega)
      have hj8 : (j * up8 (4 * x)) % 8 = 0 := by rw [hu8, ← Nat.mul_assoc]; exact Nat.mul_mod_left _ _
      have hU : ∀ w, Calls Tryz.prog 218 #[.int .i64 (4 * (x : Int))] w fun e w' => e = .returned (.int .i64 (up8 (4 * x) : Nat)) ∧ w' = w := fun w => by
        have h := sup_any (4 * x) (by omega) w
        rw [show (4 * (x : Int)) = ((4 * x : Nat) : Int) by omega]
        exact h
      generalize hmj : j * up8 (4 * x) = mj at *
      generalize hmu : up8 (4 * x) = u at *
      have hmr2 : (mj : Int).tmod 8 = 0 := by rw [Int.tmod_eq_emod_of_nonneg (by omega)]; omega
      have hmj0 : (mj : Int) ≤ 600 := by omega
      have hui : (u : Int) ≤ 120 := by omega
      have hgt : ¬ (m : Int) - 4 * (x : Int) < (mj : Int) := by omega
      have hwr : IntKind.i64.wrap ((m : Int) - 4 * (x : Int)) = (m : Int) - 4 * (x : Int) := by rw [IntKind.wrap_i64]; omega
      clear hu8
      have HS := Lib.hid hs
      clear hs hcp hcv hcn v3 q5
      go_wp2_with (first | (go_at_call 122; refine (HW.out _ ((Since.refl _).al _)).mono ?_; rintro e w6 ⟨rfl, hb6⟩) | (go_at_call 218; refine (hU _).mono ?_; rintro e w7 ⟨rfl, rfl⟩))
      have hs7 : Since wr w7 := ((Since.refl wr).al _).trans hb6
      obtain ⟨b0, b1, b2, -⟩ := cells3 (hb6.block _ (by simp) |>.trans (heap_alloc_new wr _))
      have h0 := (hs7.cell (p := ⟨ck, 0, none⟩) ncr).trans h0
      have h4 := (hs7.cell (p := ⟨ck, 4, none⟩) ncr).trans h4
      have q3 := (hs7.cell (p := ⟨bn, on + j * 5 + 3, none⟩) hbn).trans q3
      have HS7 := Lib.hid (HS.out.trans hs7)
      have hgt2 : (decide ((m : Int) - 4 * (x : Int) < (mj : Int))) = false := decide_eq_false (by omega)
      clear hs7 hb6 q0 q1 q2 q4 p0 p1 p2 v0 v1 v2
      go_quiet (fail)
      go_wp2_with fail
      exact ⟨⟨j + 1, by omega, by go_num, by rw [Nat.add_mul, Nat.one_mul, hmj, Int.natCast_add], HS7.out.drN _⟩, by simp [intOf]; omega⟩
    · obtain rfl : j = l.length := by omega
      rw [hm]
      have HS := Lib.hid hs
      clear hs
      go_wp2_with fail
      go_ret
      exact ⟨rfl, HS.out⟩
end Go.Proofs.YtbilddeepnnogaaGreatDoor
end
/- A layout fits. -/
section
set_option linter.unusedVariables false
set_option maxRecDepth 100000
namespace Go.Proofs.YtbilddeepnnogaaGreatDoor
open Go.RowKit Go.Shelf

theorem VlAt.tail {w : World} {b off : Nat} {s : ByteArray} {ns : List ByteArray} {x : Int} (h : VlAt w (some ⟨b, off, none⟩) (s :: ns) x) : VlAt w (some ⟨b, off + 3, none⟩) ns x := by
  obtain ⟨b', off', e, h1, h2⟩ := h
  cases e
  refine ⟨b, off + 3, rfl, h1, fun j t hj => ?_⟩
  obtain ⟨Ad, c, q0, q1, q2, q3⟩ := h2 (j + 1) t (by simpa using hj)
  rw [show off + (j + 1) * 3 = off + 3 + j * 3 by omega] at q0 q1 q2
  exact ⟨Ad, c, q0, q1, q2, q3⟩
/-- Counts, by names. -/
def Counts (w : World) (b k : Nat) : Prop := ∃ f m, m ≤ k ∧ MapIs w b f m ∧ ∀ s v, f s = some v → ∃ q : Nat, q ≤ k ∧ v = .int .i64 q
/-- The checker's block, behind w2, and its map. -/
structure CkSt (w2 wr : World) (V Vals B : Value) (m n cp : Nat) (Ap : Option Addr) (vs : List (List Value)) (q : Nat) : Prop where
  below : Since w2 wr
  size : w2.heap.size + 2 ≤ wr.heap.size
  row : wr.heap[w2.heap.size + 1]? = some (.cells #[V, Vals, B, .map (some w2.heap.size), .int .i64 m, .slice Ap n cp, .slice none 0 0] 251 (0, 0))
  map : Counts wr w2.heap.size q
  own : OZ (repRaw 5) 37 wr (w2.heap.size + 2) V vs
section
variable {w2 wr w' : World} {V Vals B V' : Value} {m n cp : Nat} {Ap : Option Addr} {vs : List (List Value)} {q : Nat}
theorem Counts.keep {b : Nat} (h : Counts wr b q) (hk : w'.heap[b]? = wr.heap[b]?) : Counts w' b q := by
  obtain ⟨f, m, h1, h2, h3⟩ := h
  exact ⟨f, m, h1, h2.keep hk, h3⟩
theorem Counts.lt {b : Nat} (h : Counts wr b q) : b < wr.heap.size := by
  obtain ⟨f, m, h1, h2, h3⟩ := h
  exact h2.lt
theorem CkSt.since (h : CkSt w2 wr V Vals B m n cp Ap vs q) (hs : Since wr w') : CkSt w2 w' V Vals B m n cp Ap vs q :=
  ⟨h.below.trans hs, Nat.le_trans h.size hs.size, hs.kp h.row, h.map.keep (hs.block _ h.map.lt), h.own.below hs⟩
theorem CkSt.come (h : CkSt w2 wr V Vals B m n cp Ap vs q) {r : List Value} (hz : OZ (repRaw 5) 37 w' (w2.heap.size + 2) V' (vs ++ [r])) (hg : wr.grownBy w' V.ownBlock) : CkSt w2 (w'.setCell ⟨w2.heap.size + 1, 0, none⟩ V') V' Vals B m n cp Ap (vs ++ [r]) q := by
  have hV := h.own.row_lt
  have hsz := h.size
  have hgs := hg.size
  have hk : ∀ k, k < w2.heap.size + 2 → w'.heap[k]? = wr.heap[k]? := fun k hk => hg.block k (by omega) (fun e => by have := (hV k e.symm).1; omega)
  have hk2 : ∀ k, k ≠ w2.heap.size + 1 → (w'.setCell ⟨w2.heap.size + 1, 0, none⟩ V').heap[k]? = w'.heap[k]? := fun k hk => Below.heap_setCell _ _ _ _ hk
  have hz2 : (w'.setCell ⟨w2.heap.size + 1, 0, none⟩ V').heap.size = w'.heap.size := by simp [World.setCell]
  have h0 : Since w2 w' := ⟨hg.os.trans h.below.os, hg.tape.trans h.below.tape, hg.output.trans h.below.output, Nat.le_trans h.below.size hg.size, fun k hk' => (hk k (by omega)).trans (h.below.block k hk')⟩
  exact ⟨h0.set (by show w2.heap.size ≤ w2.heap.size + 1; omega) _, by omega, by simpa using heap_setCell_same _ _ 0 _ _ V' ((hk _ (by omega)).trans h.row), h.map.keep ((hk2 _ (by omega)).trans (hk _ (by omega))), hz.keep (fun k h1 _ => hk2 k (by omega)) (by omega)⟩
theorem CkSt.map' (h : CkSt w2 wr V Vals B m n cp Ap vs q) (hg : wr.grownBy w' (some w2.heap.size)) {q' : Nat} (hm : Counts w' w2.heap.size q') : CkSt w2 w' V Vals B m n cp Ap vs q' := by
  have hsz := h.size
  have hgs := hg.size
  have hk : ∀ k, k < wr.heap.size → k ≠ w2.heap.size → w'.heap[k]? = wr.heap[k]? := fun k hk hn => hg.block k hk (fun e => hn (by injection e))
  exact ⟨⟨hg.os.trans h.below.os, hg.tape.trans h.below.tape, hg.output.trans h.below.output, Nat.le_trans h.below.size hg.size, fun k hk' => (hk k (by omega) (by omega)).trans (h.below.block k hk')⟩, by omega, (hk _ (by omega) (by omega)).trans h.row, hm, h.own.keep (fun k h1 h2 => hk k h2 (by omega)) hgs⟩
theorem CkSt.before (h : CkSt w2 wr V Vals B m n cp Ap vs q) (B' : Value) : CkSt w2 (wr.setCell ⟨w2.heap.size + 1, 2, none⟩ B') V Vals B' m n cp Ap vs q := by
  have hsz := h.size
  have hk2 : ∀ k, k ≠ w2.heap.size + 1 → (wr.setCell ⟨w2.heap.size + 1, 2, none⟩ B').heap[k]? = wr.heap[k]? := fun k hk => Below.heap_setCell _ _ _ _ hk
  have hz2 : (wr.setCell ⟨w2.heap.size + 1, 2, none⟩ B').heap.size = wr.heap.size := by simp [World.setCell]
  exact ⟨h.below.set (by show w2.heap.size ≤ w2.heap.size + 1; omega) _, by omega, by simpa using heap_setCell_same _ _ 2 _ _ B' h.row, h.map.keep (hk2 _ (by omega)), h.own.keep (fun k h1 _ => hk2 k (by omega)) (by omega)⟩
end
set_option maxHeartbeats 6400000 in
theorem fits_any (gn : ByteArray) (An Ai Ao A Ap : Option Addr) (cn ci co c cp : Nat) (l : List Op1) (x : Nat) (w : World) (h : FlatG w An Ai Ao l x) (hv : VlAt w A (⟨#[120]⟩ :: l.map (·.out)) x) (hp : PlcAt w Ap l x) (hcap : l.length + 1 ≤ c) (hcapp : l.length ≤ cp) :
    Calls Tryz.prog 71 #[.agg #[.string gn, .slice An l.length cn, .slice Ai 1 ci, .slice Ao l.length co, .slice none 0 0], .slice A (l.length + 1) c, .agg #[.int .i64 (l.length * up8 (4 * x) : Nat), .slice Ap l.length cp, .slice none 0 0]] w fun e w' => e = .returned (.bool true) ∧ Since w w' := by
  have H := Lib.hid h
  have H5 := h.ok.most
  have H0 := h.ok.pos
  have hx := h.hi
  have hx1 := h.lo
  have hnl : (l.length : Int) ≤ 5 := by omega
  have hu : up8 (4 * x) ≤ 120 := up8_le (by omega)
  have hmb : l.length * up8 (4 * x) ≤ 5 * 120 := Nat.mul_le_mul (by omega) hu
  generalize hm : l.length * up8 (4 * x) = m at hmb ⊢
  have hmi : (m : Int) ≤ 600 := by omega
  have HV := Lib.hid hv
  have HP := Lib.hid hp
  obtain ⟨b, off, rfl, hb, -⟩ := id hv
  have hmm := @run_makeMap Tryz.prog
  have hc1 : ¬ c = 1 := by omega
  clear h hv hp
  go_enter Tryz.func71, Tryz.ntmps71
  go_wp2_with fail
  refine newX2 (F := fun W => Calls _ _ _ W _) ?_
  intro w1 h1
  refine (order_any gn An Ai Ao cn ci co l x w1 (H.out.below h1.below)).mono ?_
  rintro e w2 ⟨Aq, cq, rfl, hq, hb2⟩
  have h2 := h1.all hb2
  have HX := Lib.hid h2
  have HQ := Lib.hid hq
  obtain ⟨r0, r1, r2, r3, r4, -⟩ := cells5 (h2.b0 rfl)
  obtain ⟨s0, s1, s2, -⟩ := cells3 (h2.b1 rfl)
  have z2 : w.heap.size + 1 < w2.heap.size := h2.size
  have z2' : w.heap.size < w2.heap.size := by omega
  have e1 : (l.length : Int) + 1 - (l.length : Int) = 1 := by omega
  clear hb2 h1 h2 hq
  go_wp2_with fail
  go_region
  have HS0 : Hid (CkSt w2 ((w2.alloc (.map #[] 0)).alloc (.cells #[.slice none 0 0, .slice (some ⟨b, off + 3, none⟩) l.length (c - 1), .slice none 0 0, .map (some w2.heap.size), .int .i64 m, .slice Ap l.length cp, .slice none 0 0] 251)).drew (.slice none 0 0) (.slice (some ⟨b, off + 3, none⟩) l.length (c - 1)) (.slice none 0 0) m l.length cp Ap [] 0) := by
    have hf := (fx2 w2 (.map #[] 0) (.cells #[.slice none 0 0, .slice (some ⟨b, off + 3, none⟩) l.length (c - 1), .slice none 0 0, .map (some w2.heap.size), .int .i64 m, .slice Ap l.length cp, .slice none 0 0] 251)).drew
    exact Lib.hid ⟨hf.below, hf.size, hf.b1 rfl, ⟨_, 0, Nat.le_refl _, mapIs_new (hf.b0 rfl), fun s v h => by cases h⟩, oz_nil⟩
  obtain ⟨rows, hrr⟩ := (H.out.below HX.out.below).nodes.raw
  have HR := Lib.hid hrr
  have hrl := hrr.len
  obtain ⟨i37, hi37⟩ : ∃ i, Tryz.prog.info? 37 = some i ∧ i.zero = some (.agg #[.string ⟨#[]⟩, .string ⟨#[]⟩, .slice none 0 0, .string ⟨#[]⟩, .slice none 0 0]) ∧ i.size = 5 ∧ i.bytes = 96 := by
    obtain ⟨i, h1, h2, h3, h4⟩ := info_parts Tryz.info37
    exact ⟨i, h1, h2, h3, h4⟩
  have HI := Lib.hid hi37
  clear hi37 hrr r0 r1 r2 r3 r4 s0 s1 s2 hmm
  generalize ((w2.alloc (.map #[] 0)).alloc (.cells #[.slice none 0 0, .slice (some ⟨b, off + 3, none⟩) l.length (c - 1), .slice none 0 0, .map (some w2.heap.size), .int .i64 m, .slice Ap l.length cp, .slice none 0 0] 251)).drew = w5 at HS0 ⊢
  go_wp2_with fail
  go_loopw [39] (fun i wr => ∃ k : Nat, k ≤ l.length ∧ i = .int .i64 k ∧ ∃ V, CkSt w2 wr V (.slice (some ⟨b, off + 3, none⟩) l.length (c - 1)) (.slice none 0 0) m l.length cp Ap (rows.take k) 0) (fun i _ => l.length - (intOf i).toNat)
  case atStart => exact ⟨0, by omega, rfl, _, HS0.out⟩
  case round =>
    obtain ⟨k, hk, rfl, V, hs⟩ := hrel
    have zr := hs.size
    by_cases hlt : k < l.length
    · obtain ⟨bq, oq, rfl, hbq, hcq⟩ := HQ.out.below hs.below
      have cq0 := hcq k hlt
      obtain ⟨hl, bn, offn, rfl, hbn, hcn⟩ := HR.out.since hs.below
      obtain ⟨r, hr⟩ : ∃ r, rows[k]? = some r := ⟨_, List.getElem?_eq_getElem (by rw [hl]; exact hlt)⟩
      obtain ⟨o, nm, A', c', ho, hre, hx, hcells⟩ := hcn k r hr
      subst hre
      have q0 := hcells 0 (by omega)
      have q1 := hcells 1 (by omega)
      have q2 := hcells 2 (by omega)
      have q3 := hcells 3 (by omega)
      have q4 := hcells 4 (by omega)
      simp only [Nat.add_zero, List.getElem?_cons_zero, List.getElem?_cons_succ] at q0 q1 q2 q3 q4
      obtain ⟨r0, r1, r2, r3, r4, -⟩ := cells5 ((HX.out.all hs.below).b0 rfl)
      obtain ⟨Av, cv, hV⟩ := hs.own.form
      rw [List.length_take, hl, Nat.min_eq_left (by omega)] at hV
      subst hV
      have p0 : wr.cell? ⟨w2.heap.size + 1, 0, none⟩ = some (.slice Av k cv) := cell_of_row _ _ 0 _ 251 (0, 0) hs.row
      have z5 : w2.heap.size + 1 < wr.heap.size := by omega
      have z6 : w.heap.size < wr.heap.size := by omega
      have HS := Lib.hid (hs.since (Since.refl wr).dr)
      have HRR := Lib.hid hr
      clear hs hcq hcn hcells hr hx ho hl
      go_wp2_with fail
      first | (go_region_law (first
          | (refine step_append_z wr.drew (repRaw 5) [.string o.op, .string nm, .slice A' o.m c', .string o.out, .slice none 0 0] [.string o.op, .string nm, .slice A' o.m c', .string o.out, .slice none 0 0] rfl (.tmp 47) (.tmp 53) 30 rfl 37 i37 _ 96 Tryz.underlying30 HI.out.1 HI.out.2.1 HI.out.2.2.1 HI.out.2.2.2 rfl (by decide) (by decide) (w2.heap.size + 2) (.slice Av k cv) (rows.take k) rfl HS.out.own (fun _ => False) ⟨rfl, rfl, by simp [Value.oneCell']⟩ (fun _ h => h.elim) wr.drew.heap.size rfl rfl (by rw [List.length_take]; omega) zr ?_; intro v' w7 hz7 hg7; obtain ⟨A7, c7, e7⟩ := hz7.form; rw [List.length_append, List.length_take, Nat.min_eq_left (by omega)] at e7; subst e7; have g7 := (hg7.block (w2.heap.size + 1) z5 (fun e => by have := (HS.out.own.row_lt _ e.symm).1; omega)).trans HS.out.row; have y0 : w7.cell? ⟨w2.heap.size + 1, 0, none⟩ = some (.slice Av k cv) := cell_of_row _ _ 0 _ 251 (0, 0) g7; have yf0 := frozen_row g7 0))) | fail
      all_goals
        have h7 := HS.out.come hz7 hg7
        rw [show rows.take k ++ [[.string o.op, .string nm, .slice A' o.m c', .string o.out, .slice none 0 0]] = rows.take (k + 1) by rw [List.take_add_one, HRR.out]; rfl] at h7
        go_wp2_with fail
        go_roundw
        case rel => exact ⟨k + 1, by omega, by go_num, _, h7⟩
        case measure => simp [intOf]; omega
    · obtain rfl : k = l.length := by omega
      rw [← hrl, List.take_length] at hs
      obtain ⟨Z, hown, -⟩ := id hs.own
      obtain ⟨An', cn', rfl, hnd⟩ := HR.out.again (fun A m h => h.below hs.below) hown H0
      obtain ⟨r0, r1, r2, r3, r4, -⟩ := cells5 ((HX.out.all hs.below).b0 rfl)
      have z6 : w.heap.size < wr.heap.size := by omega
      have HS1 := Lib.hid hs
      have HND := Lib.hid hnd
      rw [hrl] at HS1
      clear hs hown hnd hlt
      go_wp2_with fail
      clear r0 r1 r2 r3 r4
      have hs0 := HS1.out
      go_loopw [61] (fun i wy => ∃ k : Nat, k ≤ l.length ∧ i = .int .i64 k ∧ CkSt w2 wy (.slice An' l.length cn') (.slice (some ⟨b, off + 3, none⟩) l.length (c - 1)) (.slice none 0 0) m l.length cp Ap rows k) (fun i _ => l.length - (intOf i).toNat)
      case atStart => exact ⟨0, by omega, rfl, hs0⟩
      case round =>
        obtain ⟨k, hk, rfl, hs⟩ := hrel
        have zr2 := hs.size
        by_cases hlt : k < l.length
        · obtain ⟨o, ho⟩ : ∃ o, l[k]? = some o := ⟨_, List.getElem?_eq_getElem hlt⟩
          obtain ⟨bo, oo, rfl, hbo, hco⟩ := (H.out.below (HX.out.all hs.below).below).outs
          obtain ⟨Ad, cd, v0, v1, v2, v3⟩ := hco k o.out (by rw [List.getElem?_map, ho]; rfl)
          have p3 : wr.cell? ⟨w2.heap.size + 1, 3, none⟩ = some (.map (some w2.heap.size)) := cell_of_row _ _ 3 _ 251 (0, 0) hs.row
          have hsW := hs.since ((Since.refl wr).al (.cells #[.string o.out, .int .i64 6, .slice Ad 1 cd] 28)).dr
          obtain ⟨f, mm, hmk, hmap, hf⟩ := hsW.map
          obtain ⟨q, hq, hfq⟩ : ∃ q : Nat, q ≤ k ∧ (f o.out).getD (.int .i64 0) = .int .i64 q := by
            cases h : f o.out with
            | none => exact ⟨0, by omega, rfl⟩
            | some v =>
              obtain ⟨q, h1, h2⟩ := hf _ _ h
              exact ⟨q, h1, h2⟩
          have hlk := hmap.look (s := o.out) Tryz.und142 (zero3 _) (H.out.ok.short o (List.mem_of_getElem? ho))
          rw [hfq] at hlk
          obtain ⟨w9, hr9, hm9, hg9⟩ := hmap.put Tryz.und142 (H.out.ok.short o (List.mem_of_getElem? ho)) (by omega) (.int .i64 ((q : Int) + 1))
          have hqi : (q : Int) ≤ 5 := by omega
          have z7 : w2.heap.size + 1 < wr.heap.size := by omega
          have hc9 : Counts w9 w2.heap.size (k + 1) := ⟨_, _, by split <;> omega, hm9, fun s v h => by
            unfold upd at h
            split at h
            · cases h; exact ⟨q + 1, by omega, by simp⟩
            · obtain ⟨q', h1, h2⟩ := hf s v h
              exact ⟨q', by omega, h2⟩⟩
          have HS9 := Lib.hid (hsW.map' hg9 hc9)
          clear hs hco v3 hf hmap hm9 hg9 hsW hc9
          go_wp2_with fail
          go_region
          all_goals
            go_wp2_with fail
            exact ⟨⟨k + 1, by omega, by go_num, HS9.out⟩, by simp [intOf]; omega⟩
        · obtain rfl : k = l.length := by omega
          have HF := Lib.hid (H.out.below (HX.out.all hs.below).below)
          obtain ⟨r0, r1, r2, r3, r4, -⟩ := cells5 ((HX.out.all hs.below).b0 rfl)
          have z7 : w.heap.size < wr.heap.size := by omega
          have HS2 := Lib.hid hs
          clear hs
          go_wp2_with (first
            | (go_at_call 121; refine (before_any gn An Ai Ao cn ci co l x wr HF.out).mono ?_; rintro e w6 ⟨AB, rfl, hb6⟩; have h6 := HS2.out.since hb6; have p2 : w6.cell? ⟨w2.heap.size + 1, 2, none⟩ = some (.slice none 0 0) := cell_of_row _ _ 2 _ 251 (0, 0) h6.row; have f2 := frozen_row h6.row 2; have HS6 := Lib.hid h6; clear h6 hb6)
            | (go_at_call 142; have h7 := HS6.out.before (.slice AB l.length l.length); obtain ⟨Z7, hown7, -⟩ := id h7.own; obtain ⟨A7, c7, e7, hnd7⟩ := HR.out.again (fun A m h => h.below h7.below) hown7 H0; cases e7; have hb7 := (HX.out.all h7.below).below; refine (places_any (w2.heap.size + 1) _ _ Ap _ _ cp l H.out.ok x (by omega) (by omega) _ (cell_of_row _ _ 0 _ 251 (0, 0) h7.row) (cell_of_row _ _ 1 _ 251 (0, 0) h7.row) (by rw [hm]; exact cell_of_row _ _ 4 _ 251 (0, 0) h7.row) (cell_of_row _ _ 5 _ 251 (0, 0) h7.row) hnd7 ((HV.out.tail).below hb7) (HP.out.below hb7)).mono ?_; rintro e w8 ⟨rfl, hs8⟩; have hx8 := HX.out.all (h7.below.trans hs8); obtain ⟨s0, s1, s2, -⟩ := cells3 (hx8.b1 rfl); have HX8 := Lib.hid hx8; have z8 : w.heap.size + 1 < w8.heap.size := hx8.size; clear h7 hown7 hnd7 hb7 hs8 hx8))
          refine wp_loop_rounds 1 ?_
          rw [rounds_succ]
          go_wp2_with fail
          clear s0 s1 s2
          go_loopw [110] (fun i wy => ∃ k : Nat, k ≤ l.length ∧ i = .int .i64 k ∧ Since w8 wy) (fun i _ => l.length - (intOf i).toNat)
          case atStart => exact ⟨0, by omega, rfl, Since.refl _⟩
          case round =>
            obtain ⟨k, hk, rfl, hs⟩ := hrel
            by_cases hlt : k < l.length
            · obtain ⟨o, ho⟩ : ∃ o, l[k]? = some o := ⟨_, List.getElem?_eq_getElem hlt⟩
              have hx9 := HX8.out.all hs
              obtain ⟨bp, rfl, hbp, hcp⟩ := HP.out.below hx9.below
              obtain ⟨p0, p1, p2⟩ := hcp k o ho
              obtain ⟨s0, s1, s2, -⟩ := cells3 (hx9.b1 rfl)
              have z9 : w.heap.size + 1 < wr.heap.size := hx9.size
              have hkp : (k : Int) ≤ cp := by omega
              have HS := Lib.hid hs
              have HCP := Lib.hid hcp
              clear hs hcp ho hx9
              have hk5 : k * up8 (4 * x) ≤ 5 * 120 := Nat.mul_le_mul (by omega) hu
              generalize hmk : k * up8 (4 * x) = mk at p1 hk5
              go_wp2_with fail
              refine newX (F := fun W => Code.wp _ _ _ _ W) ?_
              intro w10 h10
              have HX10 := Lib.hid h10
              clear h10
              go_loopw [120] (fun i wy => ∃ j : Nat, j ≤ k ∧ i = .int .i64 j ∧ Fx wr wy [some (.cells #[.string o.out, .int .i64 mk, .int .i64 (4 * (x : Int))] 138)]) (fun i _ => k - (intOf i).toNat)
              case atStart => exact ⟨0, by omega, rfl, HX10.out⟩
              case round =>
                obtain ⟨j, hj, rfl, hy⟩ := hrel
                by_cases hjk : j < k
                · obtain ⟨oj, hoj⟩ : ∃ o, l[j]? = some o := ⟨_, List.getElem?_eq_getElem (by omega)⟩
                  obtain ⟨c0, c1, c2⟩ := HCP.out j oj hoj
                  have q0 := (hy.below.cell (p := ⟨bp, j * 3, none⟩) hbp).trans c0
                  have q1 := (hy.below.cell (p := ⟨bp, j * 3 + 1, none⟩) hbp).trans c1
                  have q2 := (hy.below.cell (p := ⟨bp, j * 3 + 2, none⟩) hbp).trans c2
                  obtain ⟨d0, d1, d2, -⟩ := cells3 (hy.b0 rfl)
                  have zy : _ < wr.heap.size := hy.size
                  have hg : 4 * x ≤ up8 (4 * x) := up8_ge _
                  have hle : j * up8 (4 * x) + up8 (4 * x) ≤ mk := by rw [← hmk, show j * up8 (4 * x) + up8 (4 * x) = (j + 1) * up8 (4 * x) by rw [Nat.add_mul, Nat.one_mul]]; exact Nat.mul_le_mul_right _ (by omega)
                  generalize hmj : j * up8 (4 * x) = mj at q1 hle
                  have hjk' : (j : Int) < k := by omega
                  have hmki : (mk : Int) ≤ 600 := by omega
                  have hmji : (mj : Int) ≤ 600 := by omega
                  have hc1 : (mj : Int) < mk + 4 * (x : Int) := by omega
                  have hc2 : ¬ (mk : Int) < mj + 4 * (x : Int) := by omega
                  have HY := Lib.hid hy
                  clear hy c0 c1 c2
                  go_wp2_with fail
                  exact ⟨⟨j + 1, by omega, by go_num, HY.out.new _⟩, by simp [intOf]; omega⟩
                · obtain rfl : j = k := by omega
                  have hsy : Since w8 wr := HS.out.trans hy.below
                  clear hy
                  go_wp2_with fail
                  go_roundw
                  case rel => exact ⟨j + 1, by omega, by go_num, hsy⟩
                  case measure => simp [intOf]; omega
            · obtain rfl : k = l.length := by omega
              have HB := Lib.hid (HX8.out.all hs).below
              clear hs
              go_wp2_with fail
              go_ret
              exact ⟨rfl, HB.out⟩
end Go.Proofs.YtbilddeepnnogaaGreatDoor
end
/- A plan may be run: load's Check. -/
section
set_option linter.unusedVariables false
set_option maxRecDepth 100000
namespace Go.Proofs.YtbilddeepnnogaaGreatDoor
open Go.RowKit Go.Shelf

set_option maxHeartbeats 1600000 in
theorem equalU (A B : Option Addr) (n c c' : Nat) (W : World) (hn : n ≤ 5) (h : UpTo W A n) (g : UpTo W B n) :
    Calls Tryz.prog 67 #[.slice A n c, .slice B n c'] W fun e W' => e = .returned (.bool true) ∧ Since W W' := by
  have hnl : (n : Int) ≤ 5 := by omega
  have HA := Lib.hid h
  have HB := Lib.hid g
  clear h g
  go_enter Tryz.func67, Tryz.ntmps67
  go_wp2_with fail
  go_loopw [13] (fun i wr => ∃ k : Nat, k ≤ n ∧ i = .int .i64 k ∧ Since W wr) (fun i _ => n - (intOf i).toNat)
  case atStart => exact ⟨0, by omega, rfl, Since.refl _⟩
  case round =>
    obtain ⟨k, hk, rfl, hs⟩ := hrel
    by_cases hlt : k < n
    · obtain ⟨b, o, rfl, hb, hc⟩ := HA.out.below hs
      obtain ⟨b', o', rfl, hb', hc'⟩ := HB.out.below hs
      have c0 := hc k hlt
      have c1 := hc' k hlt
      have hki : (k : Int) < n := by omega
      have HS := Lib.hid hs
      clear hs hc hc'
      go_wp2_with fail
      go_quiet (fail)
      go_wp2_with fail
      exact ⟨⟨k + 1, by omega, by go_num, HS.out.drN _⟩, by simp [intOf]; omega⟩
    · obtain rfl : k = n := by omega
      have HS := Lib.hid hs
      clear hs
      go_wp2_with fail
      go_ret
      exact ⟨rfl, HS.out⟩
set_option maxHeartbeats 1600000 in
theorem same68 (s : ByteArray) (A B : Option Addr) (c c' : Nat) (x : Int) (W : World) (h : One W A x) (g : One W B x) :
    Calls Tryz.prog 68 #[.agg #[.string s, .int .i64 6, .slice A 1 c], .agg #[.string s, .int .i64 6, .slice B 1 c']] W fun e W' => e = .returned (.bool true) ∧ Since W W' := by
  have hsW : Since W ((W.alloc (.cells #[.string s, .int .i64 6, .slice A 1 c] 28)).alloc (.cells #[.string s, .int .i64 6, .slice B 1 c'] 28)) := ((Since.refl W).al _).al _
  have hC := equal1_any _ A B c c' x (h.below hsW) (g.below hsW)
  have HSW := Lib.hid hsW
  clear h g hsW
  go_enter Tryz.func68, Tryz.ntmps68
  go_wp2_with (go_at_call 67; refine hC.mono ?_; rintro e w3 ⟨rfl, hb3⟩)
  go_ret
  exact ⟨rfl, HSW.out.trans hb3⟩
set_option maxHeartbeats 1600000 in
theorem equalV (A B : Option Addr) (n c c' : Nat) (ns : List ByteArray) (x : Int) (W : World) (hn : n ≤ 6) (hl : ns.length = n) (h : VlAt W A ns x) (g : VlAt W B ns x) :
    Calls Tryz.prog 69 #[.slice A n c, .slice B n c', .func (.func 68) #[] #[]] W fun e W' => e = .returned (.bool true) ∧ Since W W' := by
  have hnl : (n : Int) ≤ 6 := by omega
  have HA := Lib.hid h
  have HB := Lib.hid g
  clear h g
  go_enter Tryz.func69, Tryz.ntmps69
  go_wp2_with fail
  go_loopw [17] (fun i wr => ∃ k : Nat, k ≤ n ∧ i = .int .i64 k ∧ Since W wr) (fun i _ => n - (intOf i).toNat)
  case atStart => exact ⟨0, by omega, rfl, Since.refl _⟩
  case round =>
    obtain ⟨k, hk, rfl, hs⟩ := hrel
    by_cases hlt : k < n
    · obtain ⟨b, o, rfl, hb, hc⟩ := HA.out.below hs
      obtain ⟨b', o', rfl, hb', hc'⟩ := HB.out.below hs
      obtain ⟨s, hs'⟩ : ∃ s, ns[k]? = some s := ⟨_, List.getElem?_eq_getElem (by omega)⟩
      obtain ⟨Ad, cd, q0, q1, q2, q3⟩ := hc k s hs'
      obtain ⟨Bd, dd, p0, p1, p2, p3⟩ := hc' k s hs'
      have hki : (k : Int) < n := by omega
      have hsW : Since wr ((wr.alloc (.cells #[.string s, .int .i64 6, .slice Ad 1 cd] 28)).alloc (.cells #[.string s, .int .i64 6, .slice Bd 1 dd] 28)) := ((Since.refl wr).al _).al _
      have hC := same68 s Ad Bd cd dd x _ (q3.below hsW) (p3.below hsW)
      have HS := Lib.hid (hs.trans hsW)
      clear hs hc hc' q3 p3 hs' hsW
      go_wp2_with (go_at_call 68; refine hC.mono ?_; rintro e w3 ⟨rfl, hs3⟩)
      exact ⟨⟨k + 1, by omega, by go_num, HS.out.trans hs3⟩, by simp [intOf]; omega⟩
    · obtain rfl : k = n := by omega
      have HS := Lib.hid hs
      clear hs
      go_wp2_with fail
      go_ret
      exact ⟨rfl, HS.out⟩
set_option maxHeartbeats 1600000 in
theorem Fits_any (gn : ByteArray) (An Ai Ao Ap : Option Addr) (cn ci co cp : Nat) (l : List Op1) (x : Nat) (w : World) (h : FlatG w An Ai Ao l x) (hp : PlcAt w Ap l x) (hcapp : l.length ≤ cp) :
    Calls Tryz.prog 70 #[.agg #[.string gn, .slice An l.length cn, .slice Ai 1 ci, .slice Ao l.length co, .slice none 0 0], .agg #[.int .i64 (l.length * up8 (4 * x) : Nat), .slice Ap l.length cp, .slice none 0 0]] w fun e w' => e = .returned (.bool true) ∧ Since w w' := by
  have H := Lib.hid h
  have HP := Lib.hid hp
  clear h hp
  generalize hm : l.length * up8 (4 * x) = m
  go_enter Tryz.func70, Tryz.ntmps70
  go_wp2_with fail
  refine newX2 (F := fun W => Calls _ _ _ W _) ?_
  intro w1 h1
  refine (all_cap gn An Ai Ao cn ci co l x w1 (H.out.below h1.below)).mono ?_
  rintro e w2 ⟨A, c, rfl, hv, hb, hcap⟩
  have h2 := h1.all hb
  have hC := fits_any gn An Ai Ao A Ap cn ci co c cp l x w2 (H.out.below h2.below) hv (HP.out.below h2.below) hcap hcapp
  rw [hm] at hC
  obtain ⟨r0, r1, r2, r3, r4, -⟩ := cells5 (h2.b0 rfl)
  obtain ⟨s0, s1, s2, -⟩ := cells3 (h2.b1 rfl)
  have HX := Lib.hid h2
  clear hv hb h1 h2
  go_wp2_with (go_at_call 71; refine hC.mono ?_; rintro e w3 ⟨rfl, hs3⟩)
  go_ret
  exact ⟨rfl, (HX.out.all hs3).below⟩
/-- A plan in memory. -/
structure PlnAt (w : World) (An Ai Ao Or Vs Ap : Option Addr) (cp : Nat) (l : List Op1) (x : Nat) : Prop where
  fl : FlatG w An Ai Ao l x
  ord : UpTo w Or l.length
  vals : VlAt w Vs (⟨#[120]⟩ :: l.map (·.out)) x
  plc : PlcAt w Ap l x
  cap : l.length ≤ cp
theorem PlnAt.below {w w' : World} {An Ai Ao Or Vs Ap : Option Addr} {cp : Nat} {l : List Op1} {x : Nat} (h : PlnAt w An Ai Ao Or Vs Ap cp l x) (hb : Below w.heap.size w w') : PlnAt w' An Ai Ao Or Vs Ap cp l x :=
  ⟨h.fl.below hb, h.ord.below hb, h.vals.below hb, h.plc.below hb, h.cap⟩
theorem cells10 {w : World} {g : Nat} {t : TypeId} {c0 c1 c2 c3 c4 c5 c6 c7 c8 c9 : Value} (h : w.heap[g]? = some (.cells #[c0, c1, c2, c3, c4, c5, c6, c7, c8, c9] t (0, 0))) : w.cell? ⟨g, 0, none⟩ = some c0 ∧ w.cell? ⟨g, 1, none⟩ = some c1 ∧ w.cell? ⟨g, 2, none⟩ = some c2 ∧ w.cell? ⟨g, 3, none⟩ = some c3 ∧ w.cell? ⟨g, 4, none⟩ = some c4 ∧ w.cell? ⟨g, 5, none⟩ = some c5 ∧ w.cell? ⟨g, 6, none⟩ = some c6 ∧ w.cell? ⟨g, 7, none⟩ = some c7 ∧ w.cell? ⟨g, 8, none⟩ = some c8 ∧ w.cell? ⟨g, 9, none⟩ = some c9 :=
  ⟨cell_of_row _ _ 0 _ t (0, 0) h, cell_of_row _ _ 1 _ t (0, 0) h, cell_of_row _ _ 2 _ t (0, 0) h, cell_of_row _ _ 3 _ t (0, 0) h, cell_of_row _ _ 4 _ t (0, 0) h, cell_of_row _ _ 5 _ t (0, 0) h, cell_of_row _ _ 6 _ t (0, 0) h, cell_of_row _ _ 7 _ t (0, 0) h, cell_of_row _ _ 8 _ t (0, 0) h, cell_of_row _ _ 9 _ t (0, 0) h⟩
set_option maxHeartbeats 3200000 in
theorem Check_any (gn : ByteArray) (An Ai Ao Or Vs Ap : Option Addr) (cn ci co c1 c2 cp : Nat) (l : List Op1) (x : Nat) (w : World) (h : PlnAt w An Ai Ao Or Vs Ap cp l x) :
    Calls Tryz.prog 32 #[.agg #[.string gn, .slice An l.length cn, .slice Ai 1 ci, .slice Ao l.length co, .slice none 0 0, .slice Or l.length c1, .slice Vs (l.length + 1) c2, .int .i64 (l.length * up8 (4 * x) : Nat), .slice Ap l.length cp, .slice none 0 0]] w fun e w' => e = .returned (.int .i64 0) ∧ Since w w' := by
  have H := Lib.hid h
  have H5 := h.fl.ok.most
  clear h
  generalize hm : l.length * up8 (4 * x) = m
  go_enter Tryz.func32, Tryz.ntmps32
  go_wp2_with fail
  refine newX (F := fun W => Calls _ _ _ W _) ?_
  intro w1 h1
  have HX := Lib.hid h1
  refine (all_any gn An Ai Ao cn ci co l x w1 (H.out.fl.below h1.below)).mono ?_
  rintro e w2 ⟨A, c, rfl, hv, hb⟩
  have HX2 := Lib.hid (h1.all hb)
  have HV := Lib.hid hv
  obtain ⟨r0, r1, r2, r3, r4, -⟩ := cells10 ((h1.all hb).b0 rfl)
  clear hb hv h1
  go_wp2_with fail
  refine (order_any gn An Ai Ao cn ci co l x w2 (H.out.fl.below HX2.out.below)).mono ?_
  rintro e w3 ⟨Aq, cq, rfl, hq, hb3⟩
  have HX3 := Lib.hid (HX2.out.all hb3)
  have HV3 := Lib.hid (HV.out.below hb3)
  obtain ⟨r0, r1, r2, r3, r4, r5, r6, r7, r8, r9⟩ := cells10 ((HX2.out.all hb3).b0 rfl)
  have HU := Lib.hid (equalU Aq Or l.length cq c1 w3 H5 hq (H.out.ord.below HX3.out.below))
  clear hq hb3
  go_wp2_with (first
    | (go_at_call 67; refine HU.out.mono ?_; rintro e w4 ⟨rfl, hs4⟩; have HX4 := Lib.hid (HX3.out.all hs4); have HV4 := Lib.hid (HV3.out.below hs4); obtain ⟨r0, r1, r2, r3, r4, r5, r6, r7, r8, r9⟩ := cells10 (HX4.out.b0 rfl); clear hs4)
    | (go_at_call 69; refine (equalV A Vs (l.length + 1) c c2 (⟨#[120]⟩ :: l.map (·.out)) x w4 (by omega) (by simp) HV4.out (H.out.vals.below HX4.out.below)).mono ?_; rintro e w5 ⟨rfl, hs5⟩; have HX5 := Lib.hid (HX4.out.all hs5); obtain ⟨r0, r1, r2, r3, r4, r5, r6, r7, r8, r9⟩ := cells10 (HX5.out.b0 rfl); clear hs5)
    | (go_at_call 70; have hC := Fits_any gn An Ai Ao Ap cn ci co cp l x w5 (H.out.fl.below HX5.out.below) (H.out.plc.below HX5.out.below) H.out.cap; rw [hm] at hC; refine hC.mono ?_; rintro e w6 ⟨rfl, hs6⟩; have HX6 := Lib.hid (HX5.out.all hs6); clear hs6))
  go_ret
  exact ⟨rfl, HX6.out.below⟩
end Go.Proofs.YtbilddeepnnogaaGreatDoor
end
