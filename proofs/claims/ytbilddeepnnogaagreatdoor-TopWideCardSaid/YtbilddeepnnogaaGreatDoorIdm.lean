import Derived.Test.YtbilddeepnnogaaGreatDoorIam
import Derived.BigQuiet
import Derived.Test.YtbilddeepnnogaaGreatDoorHbm
set_option linter.unusedVariables false
set_option linter.unusedSimpArgs false
/- Runs: which piece is picked. -/
section
set_option linter.unusedVariables false
set_option maxRecDepth 100000
namespace Go.Proofs.YtbilddeepnnogaaGreatDoor
open Go.RowKit Go.Shelf

/-- The picker in block b: its picks, and how many have been taken. -/
structure PkAt (w : World) (b : Nat) (A : Option Addr) (c : Nat) (ps : List Int) (a : Nat) : Prop where
  row : w.heap[b]? = some (.cells #[.slice A ps.length c, .int .i64 a] 92 (0, 0))
  nums : Nums w A ps
  few : a ≤ 10000
  len : ps.length ≤ 140737488355328
  rng : ∀ p ∈ ps, -9223372036854775808 ≤ p ∧ p ≤ 9223372036854775807
  apart : ∀ (j : Nat) (d : Int) x, ps[j]? = some d → A = some x → x.block ≠ b
theorem PkAt.next {w w' : World} {b : Nat} {A : Option Addr} {c : Nat} {ps : List Int} {a : Nat} (h : PkAt w b A c ps a) (ha : a < 10000) (ho : Only b w w') (hr : w'.heap[b]? = some (.cells #[.slice A ps.length c, .int .i64 ((a : Int) + 1)] 92 (0, 0))) : PkAt w' b A c ps (a + 1) :=
  ⟨hr, fun j d hj => by
    obtain ⟨b2, off, rfl, q⟩ := h.nums j d hj
    exact ⟨b2, off, rfl, (World.cell?_of_block (a := ⟨b2, off + j, none⟩) (ho.block b2 (World.block_lt_of_cell? w ⟨b2, off + j, none⟩ q) (h.apart j d _ hj rfl))).trans q⟩, by omega, h.len, h.rng, h.apart⟩
theorem mod_nat (x : Int) (n : Nat) (hn : 0 < n) : ∃ r : Nat, r < n ∧ x % (n : Int) = (r : Int) := by
  have h0 := Int.emod_nonneg x (b := (n : Int)) (by omega)
  have h1 := Int.emod_lt_of_pos x (b := (n : Int)) (by omega)
  exact ⟨(x % (n : Int)).toNat, by omega, by omega⟩
set_option maxHeartbeats 1600000 in
theorem next_any (b : Nat) (A : Option Addr) (c : Nat) (ps : List Int) (a n : Nat) (hn : 0 < n) (hn1 : n ≤ 1000) (w : World) (h : PkAt w b A c ps a) (ha : a < 10000) :
    Calls Tryz.prog 36 #[.pointer (some ⟨b, 0, none⟩), .int .i64 n] w fun e w' => ∃ r : Nat, r < n ∧ e = .returned (.int .i64 r) ∧ Only b w w' ∧ ∃ a', a' ≤ a + 1 ∧ PkAt w' b A c ps a' := by
  obtain ⟨r0, r1, f0, f1⟩ := cells2 h.row
  have hb := (Array.getElem?_eq_some_iff.1 h.row).1
  have H := Lib.hid h
  have hlen := h.len
  have hni : (0 : Int) < n := by omega
  clear h
  rcases Nat.eq_zero_or_pos ps.length with h0 | h0
  · rw [h0] at r0
    go_enter Tryz.func36, Tryz.ntmps36
    go_wp2_with fail
    first | (rw [Exit.noGoto_ret]) | skip
    go_ret
    exact ⟨0, hn, rfl, Only.refl _ _, a, by omega, H.out⟩
  · have hai : (a : Int) ≤ 10000 := by omega
    have h0i : ¬ (ps.length : Int) = 0 := by omega
    have h0p : 0 < (ps.length : Int) := by omega
    have htm : (a : Int).tmod (ps.length : Int) = ((a % ps.length : Nat) : Int) := by rw [Int.tmod_eq_emod_of_nonneg (by omega)]; rfl
    have hlt : a % ps.length < ps.length := Nat.mod_lt _ h0
    obtain ⟨p, hp⟩ : ∃ p, ps[a % ps.length]? = some p := ⟨_, List.getElem?_eq_getElem hlt⟩
    obtain ⟨bp, op, rfl, c0⟩ := H.out.nums _ _ hp
    have hpr := H.out.rng p (List.mem_of_getElem? hp)
    have hbp := World.block_lt_of_cell? w _ c0
    generalize hk : a % ps.length = k at *
    have hki : (k : Int) < ps.length := by omega
    have hli : (ps.length : Int) ≤ 140737488355328 := by omega
    go_enter Tryz.func36, Tryz.ntmps36
    go_wp2_with fail
    go_quiet (fail)
    go_wp2_with fail
    all_goals
      have ho : Only b w ((w.drewN nq).setCell ⟨b, 1, none⟩ (.int .i64 ((a : Int) + 1))) := ((Only.refl b w).drewN nq).set_ 1 _
      have hrow : ((w.drewN nq).setCell ⟨b, 1, none⟩ (.int .i64 ((a : Int) + 1))).heap[b]? = some (.cells #[.slice (some ⟨bp, op, none⟩) ps.length c, .int .i64 ((a : Int) + 1)] 92 (0, 0)) := by
        simpa using heap_setCell_same (w.drewN nq) b 1 _ 92 (.int .i64 ((a : Int) + 1)) H.out.row
      first | (rw [Exit.noGoto_ret]) | skip
      go_ret
      first
        | (obtain ⟨r, hr, e⟩ := mod_nat (-1 - p) n hn; exact ⟨r, hr, by rw [← e]; rfl, ho, a + 1, by omega, H.out.next ha ho hrow⟩)
        | (obtain ⟨r, hr, e⟩ := mod_nat p n hn; exact ⟨r, hr, by rw [← e]; rfl, ho, a + 1, by omega, H.out.next ha ho hrow⟩)
end Go.Proofs.YtbilddeepnnogaaGreatDoor
end
/- Runs: what may be done now. -/
section
set_option linter.unusedVariables false
set_option maxRecDepth 100000
namespace Go.Proofs.YtbilddeepnnogaaGreatDoor
open Go.RowKit Go.Shelf

/-- How many pieces are not done. -/
def undone (D : Nat → Bool) : Nat → Nat
  | 0 => 0
  | q + 1 => undone D q + (if D q then 0 else 1)
/-- A node's work in block b: its pieces in S, which of them are done in Dn. -/
structure WkAt (w : World) (b S Dn i : Nat) (o : Op1) (x sz q : Nat) (D : Nat → Bool) : Prop where
  row : ∃ nm A cA Ad cd cS cD, w.heap[b]? = some (.cells #[.string o.op, .string nm, .slice A o.m cA, .string o.out, .slice none 0 0, .string o.out, .int .i64 6, .slice Ad 1 cd, .string o.out, .int .i64 (i * up8 (4 * x) : Nat), .int .i64 (4 * (x : Int)), .slice (some ⟨S, 0, none⟩) q cS, .slice (some ⟨Dn, 0, none⟩) q cD, .int .i64 (undone D q : Nat), .int .i64 0, .slice none 0 0] 170 (0, 0)) ∧ Xs w A o.m ∧ One w Ad x
  steps : ∀ j, j < q → w.cell? ⟨S, j * 3, none⟩ = some (.int .i64 i) ∧ w.cell? ⟨S, j * 3 + 1, none⟩ = some (.int .i64 (j * sz : Nat)) ∧ w.cell? ⟨S, j * 3 + 2, none⟩ = some (.int .i64 (min (x : Int) ((j * sz : Nat) + (sz : Int))))
  done : ∀ j, j < q → w.cell? ⟨Dn, j, none⟩ = some (.bool (D j))
/-- The machine's works. -/
structure MaSt (w : World) (M Wb cW : Nat) (wk S Dn : Nat → Nat) (l : List Op1) (x sz q : Nat) (D : Nat → Nat → Bool) : Prop where
  w3 : w.cell? ⟨M, 3, none⟩ = some (.slice (some ⟨Wb, 0, none⟩) l.length cW)
  wp : ∀ i, i < l.length → w.cell? ⟨Wb, i, none⟩ = some (.pointer (some ⟨wk i, 0, none⟩))
  wa : ∀ i o, l[i]? = some o → WkAt w (wk i) (S i) (Dn i) i o x sz q (D i)
theorem WkAt.since {w w' : World} {b S Dn i : Nat} {o : Op1} {x sz q : Nat} {D : Nat → Bool} (h : WkAt w b S Dn i o x sz q D) (hs : Since w w') : WkAt w' b S Dn i o x sz q D := by
  obtain ⟨⟨nm, A, cA, Ad, cd, cS, cD, h1, h2, h3⟩, h4, h5⟩ := h
  have ce : ∀ {b o : Nat} {v : Value}, w.cell? ⟨b, o, none⟩ = some v → w'.cell? ⟨b, o, none⟩ = some v := fun {b o v} hc => (hs.cell (p := ⟨b, o, none⟩) (World.block_lt_of_cell? w ⟨b, o, none⟩ hc)).trans hc
  exact ⟨⟨nm, A, cA, Ad, cd, cS, cD, hs.kp h1, h2.below hs, h3.below hs⟩, fun j hj => by obtain ⟨a, b, c⟩ := h4 j hj; exact ⟨ce a, ce b, ce c⟩, fun j hj => ce (h5 j hj)⟩
theorem MaSt.since {w w' : World} {M Wb cW : Nat} {wk S Dn : Nat → Nat} {l : List Op1} {x sz q : Nat} {D : Nat → Nat → Bool} (h : MaSt w M Wb cW wk S Dn l x sz q D) (hs : Since w w') : MaSt w' M Wb cW wk S Dn l x sz q D :=
  ⟨(hs.cell (p := ⟨M, 3, none⟩) (World.block_lt_of_cell? w ⟨M, 3, none⟩ h.w3)).trans h.w3, fun i hi => (hs.cell (p := ⟨Wb, i, none⟩) (World.block_lt_of_cell? w ⟨Wb, i, none⟩ (h.wp i hi))).trans (h.wp i hi), fun i o hi => (h.wa i o hi).since hs⟩
theorem cf88_nil (fv : Value) (c : Nat) (w : World) : Calls Tryz.prog 88 #[.slice none 0 c, fv] w fun e w' => e = .returned (.bool false) ∧ w' = w := by
  go_enter Tryz.func88, Tryz.ntmps88
  go_wp2
  refine wp_loop_rounds 1 ?_
  rw [rounds_succ]
  go_wp2
  go_ret
  exact ⟨rfl, rfl⟩
/-- Nothing waits. -/
theorem ready_any (M : Nat) {b S Dn i : Nat} {o : Op1} {x sz q : Nat} {D : Nat → Bool} (w : World) (h : WkAt w b S Dn i o x sz q D) :
    Calls Tryz.prog 78 #[.pointer (some ⟨M, 0, none⟩), .pointer (some ⟨b, 0, none⟩)] w fun e w' => e = .returned (.bool true) ∧ Since w w' := by
  obtain ⟨⟨nm, A, cA, Ad, cd, cS, cD, h1, -, -⟩, -, -⟩ := h
  have c14 : w.cell? ⟨b, 14, none⟩ = some (.int .i64 0) := cell_of_row _ _ 14 _ 170 (0, 0) h1
  have c15 : w.cell? ⟨b, 15, none⟩ = some (.slice none 0 0) := cell_of_row _ _ 15 _ 170 (0, 0) h1
  have nb := (Array.getElem?_eq_some_iff.1 h1).1
  clear h1
  go_enter Tryz.func78, Tryz.ntmps78
  go_wp2_with (go_at_call 88; refine (cf88_nil _ _ _).mono ?_; rintro e w3 ⟨rfl, rfl⟩)
  go_ret
  exact ⟨rfl, (Since.refl w).al _⟩
end Go.Proofs.YtbilddeepnnogaaGreatDoor
end
/- Runs: Enabled. -/
section
set_option linter.unusedVariables false
set_option maxRecDepth 100000
namespace Go.Proofs.YtbilddeepnnogaaGreatDoor
open Go.RowKit Go.Shelf

/-- What is not done of a node's first j pieces. -/
def openR (D : Nat → Bool) (i x sz j : Nat) : List (List Value) := ((List.range j).filter (fun t => !D t)).map (stepR i x sz)
/-- Of all of the first k nodes. -/
def openL (D : Nat → Nat → Bool) (x sz q k : Nat) : List (List Value) := (List.range k).flatMap (fun i => openR (D i) i x sz q)
theorem openR_succ (D : Nat → Bool) (i x sz j : Nat) : openR D i x sz (j + 1) = openR D i x sz j ++ (if D j then [] else [stepR i x sz j]) := by
  unfold openR
  rw [List.range_succ, List.filter_append, List.map_append]
  congr 1
  by_cases h : D j <;> simp [h]
theorem openL_succ (D : Nat → Nat → Bool) (x sz q k : Nat) : openL D x sz q (k + 1) = openL D x sz q k ++ openR (D k) k x sz q := by
  simp [openL, List.range_succ]
theorem openR_len (D : Nat → Bool) (i x sz j : Nat) : (openR D i x sz j).length = undone D j := by
  induction j with
  | zero => rfl
  | succ j ih =>
    rw [openR_succ, List.length_append, ih, undone]
    by_cases h : D j <;> simp [h]
theorem undone_le (D : Nat → Bool) (j : Nat) : undone D j ≤ j := by
  induction j with
  | zero => exact Nat.le_refl _
  | succ j ih => rw [undone]; split <;> omega
/-- How many pieces are not done in all. -/
def openN (D : Nat → Nat → Bool) (q : Nat) : Nat → Nat
  | 0 => 0
  | k + 1 => openN D q k + undone (D k) q
theorem openL_len (D : Nat → Nat → Bool) (x sz q k : Nat) : (openL D x sz q k).length = openN D q k := by
  induction k with
  | zero => rfl
  | succ k ih => rw [openL_succ, List.length_append, ih, openR_len, openN]
theorem openN_le (D : Nat → Nat → Bool) (q k : Nat) : openN D q k ≤ k * q := by
  induction k with
  | zero => exact Nat.zero_le _
  | succ k ih => rw [openN, Nat.add_mul, Nat.one_mul]; have := undone_le (D k) q; omega
theorem openL_mem {D : Nat → Nat → Bool} {x sz q k : Nat} {r : List Value} (h : r ∈ openL D x sz q k) : ∃ i j, i < k ∧ j < q ∧ D i j = false ∧ r = stepR i x sz j := by
  simp only [openL, openR, List.mem_flatMap, List.mem_range, List.mem_map, List.mem_filter, Bool.not_eq_true'] at h
  obtain ⟨i, hi, j, ⟨hj, hd⟩, rfl⟩ := h
  exact ⟨i, j, hi, hj, hd, rfl⟩
set_option maxHeartbeats 3200000 in
theorem enabled_any (M Wb cW : Nat) (wk S Dn : Nat → Nat) (l : List Op1) (hl : FlatL l) (x sz q : Nat) (hx : x ≤ 30) (hq : q ≤ 30) (D : Nat → Nat → Bool) (w : World) (h : MaSt w M Wb cW wk S Dn l x sz q D) :
    Calls Tryz.prog 34 #[.pointer (some ⟨M, 0, none⟩)] w fun e w' => ∃ v, e = .returned v ∧ OwnL (repRaw 3) 97 w' w.heap.size (fun _ => False) v (openL D x sz q l.length) ∧ Since w w' := by
  have H := Lib.hid h
  have hn5 := hl.most
  have hnl : (l.length : Int) ≤ 5 := by omega
  have hqi : (q : Int) ≤ 30 := by omega
  have nM := World.block_lt_of_cell? w ⟨M, 3, none⟩ h.w3
  dsimp only at nM
  have w3 := h.w3
  obtain ⟨i97, hi97⟩ : ∃ i, Tryz.prog.info? 97 = some i ∧ i.zero = some (.agg #[.int .i64 0, .int .i64 0, .int .i64 0]) ∧ i.size = 3 ∧ i.bytes = 24 := by
    obtain ⟨i, h1, h2, h3, h4⟩ := info_parts Tryz.info97
    exact ⟨i, h1, h2, h3, h4⟩
  have HI := Lib.hid hi97
  clear hi97 h
  go_enter Tryz.func34, Tryz.ntmps34
  go_wp2_with fail
  clear w3
  go_loopw [3, 13] (fun v i wr => ∃ k : Nat, k ≤ l.length ∧ i = .int .i64 k ∧ Since w wr ∧ OwnL (repRaw 3) 97 wr w.heap.size (fun _ => False) v (openL D x sz q k)) (fun _ i _ => l.length - (intOf i).toNat)
  case atStart => exact ⟨0, by omega, rfl, Since.refl _, ownL_nil⟩
  case round =>
    obtain ⟨k, hk, rfl, hs, hown⟩ := hrel
    by_cases hlt : k < l.length
    · obtain ⟨o, ho⟩ : ∃ o, l[k]? = some o := ⟨_, List.getElem?_eq_getElem hlt⟩
      have hm := H.out.since hs
      have p0 := hm.wp k hlt
      have hwk := hm.wa k o ho
      have nWb := World.block_lt_of_cell? wr ⟨Wb, k, none⟩ p0
      have hR := ready_any M wr hwk
      have HWK := Lib.hid hwk
      have HS := Lib.hid hs
      have HOWN := Lib.hid hown
      have hki : (k : Int) < l.length := by omega
      have HLO := Lib.hid ho
      clear hs hown hm hwk ho
      go_wp2_with (go_at_call 78; refine hR.mono ?_; rintro e w4 ⟨rfl, hs4⟩; have hw4 := HWK.out.since hs4; obtain ⟨nm, A, cA, Ad, cd, cS, cD, hrow, -, -⟩ := hw4.row; have c11 : w4.cell? ⟨wk k, 11, none⟩ = some (.slice (some ⟨S k, 0, none⟩) q cS) := cell_of_row _ _ 11 _ 170 (0, 0) hrow; have HW4 := Lib.hid hw4; have HO4 := Lib.hid (HOWN.out.keep (fun i hi => hs4.block i (HOWN.out.lt i hi).2) (fun _ h => h.elim) (fun _ h => h)); have HS4 := Lib.hid (HS.out.trans hs4); clear hw4 hrow hs4)
      go_loopw [3, 26] (fun v i wy => ∃ j : Nat, j ≤ q ∧ i = .int .i64 j ∧ Since w wy ∧ OwnL (repRaw 3) 97 wy w.heap.size (fun _ => False) v (openL D x sz q k ++ openR (D k) k x sz j)) (fun _ i _ => q - (intOf i).toNat)
      case atStart => exact ⟨0, by omega, rfl, HS4.out, by simpa [openR] using HO4.out⟩
      case round =>
        obtain ⟨j, hj, rfl, hsy, hown⟩ := hrel
        have hwy := (H.out.since hsy).wa k o HLO.out
        obtain ⟨Av, cv, hv⟩ := hown.form
        subst hv
        have hll : (openL D x sz q k ++ openR (D k) k x sz j).length ≤ 1000 := by
          rw [List.length_append, openL_len, openR_len]
          have h1 := openN_le D q k
          have h2 := undone_le (D k) j
          have h3 : k * q ≤ 5 * 30 := Nat.mul_le_mul (by omega) hq
          omega
        have HSY := Lib.hid hsy
        have HOY := Lib.hid hown
        clear hsy hown
        by_cases hjq : j < q
        · obtain ⟨s0, s1, s2⟩ := hwy.steps j hjq
          have d0 := hwy.done j hjq
          obtain ⟨nm, A, cA, Ad, cd, cS', cD', hrow, -, -⟩ := hwy.row
          have c12 : wr.cell? ⟨wk k, 12, none⟩ = some (.slice (some ⟨Dn k, 0, none⟩) q cD') := cell_of_row _ _ 12 _ 170 (0, 0) hrow
          have n1 := World.block_lt_of_cell? wr ⟨wk k, 12, none⟩ c12
          have n2 := World.block_lt_of_cell? wr ⟨Dn k, j, none⟩ d0
          dsimp only at n1 n2
          have hji : (j : Int) < q := by omega
          have hrw : stepR k x sz j = [.int .i64 k, .int .i64 (j * sz : Nat), .int .i64 (min (x : Int) ((j * sz : Nat) + (sz : Int)))] := rfl
          clear hrow hwy
          generalize hmj : j * sz = mj at s1 s2 hrw
          generalize hmm : min (x : Int) ((mj : Int) + (sz : Int)) = mm at s2 hrw
          have HOA := Lib.hid (HOY.out.keep (w' := wr.alloc (.cells #[.int .i64 k, .int .i64 mj, .int .i64 mm] 97)) (fun i hi => (below_new _ _).block i (HOY.out.lt i hi).2) (fun _ h => h.elim) (fun _ h => h))
          cases hD : D k j with
          | true =>
            rw [hD] at d0
            go_wp2_with fail
            exact ⟨⟨j + 1, by omega, by go_num, (HSY.out.al _), by rw [openR_succ, hD]; simpa using HOA.out⟩, by simp [intOf]; omega⟩
          | false =>
            rw [hD] at d0
            go_wp2_with (at_builtin; refine wpList_append_f (wr.alloc (.cells #[.int .i64 k, .int .i64 mj, .int .i64 mm] 97)) (repRaw 3) (flatRaw 3) (stepR k x sz j) [.int .i64 k, .int .i64 mj, .int .i64 mm] rfl (.tmp 39) (.tmp 41) 93 rfl 97 i97 _ 24 Tryz.underlying93 HI.out.1 HI.out.2.1 HI.out.2.2.1 HI.out.2.2.2 rfl (by decide) (by decide) w.heap.size _ _ rfl HOA.out ⟨hrw.symm, by rw [hrw]; rfl, by rw [hrw]; simp [Value.oneCell']⟩ (wr.heap.size + 1) (by simp) rfl (by omega) (by have := (HSY.out.al (.cells #[.int .i64 k, .int .i64 mj, .int .i64 mm] 97)).size; exact this) ?_; intro v' w7 ho7 hb7)
            exact ⟨⟨j + 1, by omega, by go_num, Below.trans (HSY.out.al _) hb7, by rw [openR_succ, hD, ← List.append_assoc]; simpa using ho7⟩, by simp [intOf]; omega⟩
        · obtain rfl : j = q := by omega
          go_wp2_with fail
          go_roundw
          case rel => exact ⟨k + 1, by omega, by go_num, HSY.out, by rw [openL_succ]; exact HOY.out⟩
          case measure => simp [intOf]; omega
    · obtain rfl : k = l.length := by omega
      have HS := Lib.hid hs
      have HOWN := Lib.hid hown
      clear hs hown
      go_wp2_with fail
      go_ret
      exact ⟨_, rfl, HOWN.out, HS.out⟩
end Go.Proofs.YtbilddeepnnogaaGreatDoor
end
/- Runs: which node a piece is of. -/
section
set_option linter.unusedVariables false
set_option maxRecDepth 100000
namespace Go.Proofs.YtbilddeepnnogaaGreatDoor
open Go.RowKit Go.Shelf

set_option maxHeartbeats 3200000 in
theorem find_any (M Wb cW : Nat) (wk S Dn : Nat → Nat) (l : List Op1) (hl : FlatL l) (x sz q : Nat) (hsz : 1 ≤ sz) (hx : x ≤ 30) (hq : q ≤ 30) (D : Nat → Nat → Bool) (i j : Nat) (hi : i < l.length) (hj : j < q) (w : World) (h : MaSt w M Wb cW wk S Dn l x sz q D) :
    Calls Tryz.prog 79 #[.pointer (some ⟨M, 0, none⟩), .agg #[.int .i64 i, .int .i64 (j * sz : Nat), .int .i64 (min (x : Int) ((j * sz : Nat) + (sz : Int)))]] w fun e w' => e = .returned (.tuple #[.pointer (some ⟨wk i, 0, none⟩), .int .i64 j]) ∧ Since w w' := by
  have H := Lib.hid h
  have hn5 := hl.most
  have hnl : (l.length : Int) ≤ 5 := by omega
  have hqi : (q : Int) ≤ 30 := by omega
  have hii : (i : Int) < l.length := by omega
  have nM := World.block_lt_of_cell? w ⟨M, 3, none⟩ h.w3
  have nW := World.block_lt_of_cell? w ⟨Wb, i, none⟩ (h.wp i hi)
  dsimp only at nM nW
  have w3 := h.w3
  have wp := h.wp i hi
  obtain ⟨o, ho⟩ : ∃ o, l[i]? = some o := ⟨_, List.getElem?_eq_getElem hi⟩
  have hwk := h.wa i o ho
  obtain ⟨nm, A, cA, Ad, cd, cS, cD, hrow, -, -⟩ := hwk.row
  have c11 : w.cell? ⟨wk i, 11, none⟩ = some (.slice (some ⟨S i, 0, none⟩) q cS) := cell_of_row _ _ 11 _ 170 (0, 0) hrow
  have nK := World.block_lt_of_cell? w ⟨wk i, 11, none⟩ c11
  dsimp only at nK
  have HWK := Lib.hid hwk
  clear h hrow hwk
  generalize hmj : j * sz = mj
  generalize hmm : min (x : Int) ((mj : Int) + (sz : Int)) = mm
  go_enter Tryz.func79, Tryz.ntmps79
  go_wp2_with fail
  refine newX (F := fun W => Code.wp _ _ _ _ W) ?_
  intro w1 h1
  obtain ⟨b0, b1, b2, -⟩ := cells3 (h1.b0 rfl)
  have w3 := (h1.below.cell (p := ⟨M, 3, none⟩) nM).trans w3
  have wp := (h1.below.cell (p := ⟨Wb, i, none⟩) nW).trans wp
  have c11 := (h1.below.cell (p := ⟨wk i, 11, none⟩) nK).trans c11
  have HX := Lib.hid h1
  clear h1
  go_quiet (fail)
  go_wp2_with fail
  go_quiet (fail)
  go_wp2_with fail
  go_loopw [35] (fun i35 wr => ∃ t : Nat, t ≤ j ∧ i35 = .int .i64 t ∧ Fx w wr [some (.cells #[.int .i64 i, .int .i64 mj, .int .i64 mm] 97)]) (fun i35 _ => q - (intOf i35).toNat)
  case atStart => exact ⟨0, by omega, rfl, HX.out.drewN _⟩
  case round =>
    obtain ⟨t, ht, rfl, hy⟩ := hrel
    obtain ⟨s0, s1, s2⟩ := (HWK.out.since hy.below).steps t (by omega)
    obtain ⟨b0, b1, b2, -⟩ := cells3 (hy.b0 rfl)
    have zy : w.heap.size < wr.heap.size := hy.size
    have hti : (t : Int) < q := by omega
    have HY := Lib.hid hy
    clear hy
    rcases Nat.lt_or_ge t j with hlt | hge
    · have hne : t * sz ≠ mj := by
        rw [← hmj]
        intro e
        have := Nat.mul_lt_mul_of_pos_right hlt hsz
        omega
      generalize hmt : t * sz = mt at s1 s2 hne
      generalize hmn : min (x : Int) ((mt : Int) + (sz : Int)) = mn at s2
      have hnei : ¬ (mt : Int) = (mj : Int) := by omega
      go_wp2_with fail
      exact ⟨⟨t + 1, by omega, by go_num, HY.out.new _⟩, by simp [intOf]; omega⟩
    · obtain rfl : t = j := by omega
      rw [hmj] at s1 s2
      rw [hmm] at s2
      go_wp2_with fail
      first | (rw [Exit.noGoto_ret]) | skip
      go_ret2
      exact ⟨rfl, (HY.out.new _).below⟩
end Go.Proofs.YtbilddeepnnogaaGreatDoor
end
