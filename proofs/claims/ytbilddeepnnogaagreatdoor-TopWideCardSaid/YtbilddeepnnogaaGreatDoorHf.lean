import Derived.Test.YtbilddeepnnogaaGreatDoorHbm
import Derived.Deep.CutRange
set_option linter.unusedVariables false
set_option linter.unusedSimpArgs false
/- The arena's beginning: all values, none placed yet. -/
set_option linter.unusedVariables false
set_option maxRecDepth 100000
namespace Go.Proofs.YtbilddeepnnogaaGreatDoor
open Go.RowKit Go.Shelf

/-- The planner's block, at p, behind w4; its three own lists. -/
structure PlSt (w4 wr : World) (lab : Nat → Nat) (gn : ByteArray) (An Ai Ao : Option Addr) (cn ci co n : Nat) (B V R O : Value) (vs os rs : List (List Value)) : Prop where
  below : Since w4 wr
  row : wr.heap[w4.heap.size]? = some (.cells #[.string gn, .slice An n cn, .slice Ai 1 ci, .slice Ao n co, .slice none 0 0, B, V, R, O, .slice none 0 0, .int .i64 0, .slice none 0 0, .slice none 0 0] 135 (0, 0))
  ov : OL (repRaw 9) 140 lab 1 wr (w4.heap.size + 1) V vs
  oo : OL (repRaw 1) 4 lab 2 wr (w4.heap.size + 1) O os
  or_ : OL (repRaw 1) 23 lab 3 wr (w4.heap.size + 1) R rs
  fresh : Fresh lab wr
section
variable {w4 wr w' : World} {lab lab' : Nat → Nat} {gn : ByteArray} {An Ai Ao : Option Addr} {cn ci co n : Nat} {B V R O V' : Value} {vs os rs : List (List Value)}
theorem PlSt.size (h : PlSt w4 wr lab gn An Ai Ao cn ci co n B V R O vs os rs) : w4.heap.size < wr.heap.size := (Array.getElem?_eq_some_iff.1 h.row).1
theorem PlSt.since (h : PlSt w4 wr lab gn An Ai Ao cn ci co n B V R O vs os rs) (hs : Since wr w') : PlSt w4 w' lab gn An Ai Ao cn ci co n B V R O vs os rs :=
  ⟨h.below.trans hs, hs.kp h.row, h.ov.below hs, h.oo.below hs, h.or_.below hs, h.fresh.more hs.size⟩
/-- One thing more in one of the three, and the block's cell turned. -/
theorem PlSt.grew (h : PlSt w4 wr lab gn An Ai Ao cn ci co n B V R O vs os rs) {m : Nat} (hm : m ≠ 0) (hlab : ∀ k, k ≤ w4.heap.size → lab k = 0) (hg : Grew lab lab' m wr w') : Since w4 w' ∧ w'.heap[w4.heap.size]? = wr.heap[w4.heap.size]? := by
  have hs := h.size
  exact ⟨⟨hg.os.trans h.below.os, hg.tape.trans h.below.tape, hg.output.trans h.below.output, Nat.le_trans h.below.size hg.size, fun k hk => (hg.keep k (by omega) (by rw [hlab k (by omega)]; exact fun e => hm e.symm)).trans (h.below.block k hk)⟩, hg.keep _ hs (by rw [hlab _ (Nat.le_refl _)]; exact fun e => hm e.symm)⟩
theorem PlSt.putV (h : PlSt w4 wr lab gn An Ai Ao cn ci co n B V R O vs os rs) (hlab : ∀ k, k ≤ w4.heap.size → lab k = 0) {r : List Value} (ho : OL (repRaw 9) 140 lab' 1 w' (w4.heap.size + 1) V' (vs ++ [r])) (hg : Grew lab lab' 1 wr w') : PlSt w4 (w'.setCell ⟨w4.heap.size, 6, none⟩ V') lab' gn An Ai Ao cn ci co n B V' R O (vs ++ [r]) os rs ∧ ∀ k, k ≤ w4.heap.size → lab' k = 0 := by
  obtain ⟨h1, h2⟩ := h.grew (by decide) hlab hg
  have hs := h.size
  have hz : (w'.setCell ⟨w4.heap.size, 6, none⟩ V').heap.size = w'.heap.size := by simp [World.setCell]
  exact ⟨⟨h1.setCell (Nat.le_refl _) _, by simpa using heap_setCell_same _ _ 6 _ _ V' (h2.trans h.row), ho.set_far (Nat.lt_succ_self _) _, (h.oo.other hg (by decide) (by decide)).set_far (Nat.lt_succ_self _) _, (h.or_.other hg (by decide) (by decide)).set_far (Nat.lt_succ_self _) _, hg.fresh.more (Nat.le_of_eq hz.symm)⟩, fun k hk => (hg.lab k (by omega)).trans (hlab k hk)⟩
theorem PlSt.putO (h : PlSt w4 wr lab gn An Ai Ao cn ci co n B V R O vs os rs) (hlab : ∀ k, k ≤ w4.heap.size → lab k = 0) {r : List Value} (ho : OL (repRaw 1) 4 lab' 2 w' (w4.heap.size + 1) V' (os ++ [r])) (hg : Grew lab lab' 2 wr w') : PlSt w4 (w'.setCell ⟨w4.heap.size, 8, none⟩ V') lab' gn An Ai Ao cn ci co n B V R V' vs (os ++ [r]) rs ∧ ∀ k, k ≤ w4.heap.size → lab' k = 0 := by
  obtain ⟨h1, h2⟩ := h.grew (by decide) hlab hg
  have hs := h.size
  have hz : (w'.setCell ⟨w4.heap.size, 8, none⟩ V').heap.size = w'.heap.size := by simp [World.setCell]
  exact ⟨⟨h1.setCell (Nat.le_refl _) _, by simpa using heap_setCell_same _ _ 8 _ _ V' (h2.trans h.row), (h.ov.other hg (by decide) (by decide)).set_far (Nat.lt_succ_self _) _, ho.set_far (Nat.lt_succ_self _) _, (h.or_.other hg (by decide) (by decide)).set_far (Nat.lt_succ_self _) _, hg.fresh.more (Nat.le_of_eq hz.symm)⟩, fun k hk => (hg.lab k (by omega)).trans (hlab k hk)⟩
theorem PlSt.putR (h : PlSt w4 wr lab gn An Ai Ao cn ci co n B V R O vs os rs) (hlab : ∀ k, k ≤ w4.heap.size → lab k = 0) {r : List Value} (ho : OL (repRaw 1) 23 lab' 3 w' (w4.heap.size + 1) V' (rs ++ [r])) (hg : Grew lab lab' 3 wr w') : PlSt w4 (w'.setCell ⟨w4.heap.size, 7, none⟩ V') lab' gn An Ai Ao cn ci co n B V V' O vs os (rs ++ [r]) ∧ ∀ k, k ≤ w4.heap.size → lab' k = 0 := by
  obtain ⟨h1, h2⟩ := h.grew (by decide) hlab hg
  have hs := h.size
  have hz : (w'.setCell ⟨w4.heap.size, 7, none⟩ V').heap.size = w'.heap.size := by simp [World.setCell]
  exact ⟨⟨h1.setCell (Nat.le_refl _) _, by simpa using heap_setCell_same _ _ 7 _ _ V' (h2.trans h.row), (h.ov.other hg (by decide) (by decide)).set_far (Nat.lt_succ_self _) _, (h.oo.other hg (by decide) (by decide)).set_far (Nat.lt_succ_self _) _, ho.set_far (Nat.lt_succ_self _) _, hg.fresh.more (Nat.le_of_eq hz.symm)⟩, fun k hk => (hg.lab k (by omega)).trans (hlab k hk)⟩
end
theorem Tryz.info140 : (Tryz.prog.info? 140).map (fun i => (i.zero, i.size, i.bytes)) = some (some (.agg #[.string ⟨#[]⟩, .string ⟨#[]⟩, .slice none 0 0, .string ⟨#[]⟩, .slice none 0 0, .int .i64 0, .string ⟨#[]⟩, .int .i64 0, .int .i64 0]), 9, 136) := by kernel_rfl
theorem Tryz.info4' : (Tryz.prog.info? 4).map (fun i => (i.zero, i.size, i.bytes)) = some (some (.bool false), 1, 1) := by kernel_rfl
theorem Tryz.info23' : (Tryz.prog.info? 23).map (fun i => (i.zero, i.size, i.bytes)) = some (some (.slice none 0 0), 1, 24) := by kernel_rfl
/-- What the beginning leaves: the planner's block, its values, all of them put out. -/
def ABeg (gn : ByteArray) (An Ai Ao : Option Addr) (cn ci co : Nat) (l : List Op1) (x : Nat) (w : World) (e : Ending) (w' : World) : Prop := ∃ p bV cV bO cO B R T, e = .returned (.tuple #[.pointer (some ⟨p, 0, none⟩), .int .i64 (l.length * up8 (4 * x) : Nat), .int .i64 0]) ∧ w'.heap[p]? = some (.cells #[.string gn, .slice An l.length cn, .slice Ai 1 ci, .slice Ao l.length co, .slice none 0 0, B, .slice (some ⟨bV, 0, none⟩) l.length cV, R, .slice (some ⟨bO, 0, none⟩) l.length cO, T, .int .i64 0, .slice none 0 0, .slice none 0 0] 135 (0, 0)) ∧ PvAt w' w.heap.size bV l x (fun _ => 0) ∧ (∀ j, j < l.length → w'.cell? ⟨bO, j, none⟩ = some (.bool true)) ∧ bV ≠ p ∧ bO ≠ p ∧ bV ≠ bO ∧ w.heap.size ≤ p ∧ w.heap.size ≤ bV ∧ w.heap.size ≤ bO ∧ Below w.heap.size w w'
theorem OL.frozen {α : Type} {ρ : Rep α} {e : TypeId} {lab : Nat → Nat} {i : Nat} {w : World} {lo b n c : Nat} {l : List α} (h : OL ρ e lab i w lo (.slice (some ⟨b, 0, none⟩) n c) l) : ∀ j, w.frozen? ⟨b, j, none⟩ = false := by
  obtain ⟨A', c', e⟩ := h.form
  simp only [Value.slice.injEq] at e
  obtain ⟨-, rfl, -⟩ := e
  obtain ⟨xs, hx, hr⟩ := h.own.own
  have hx' := hx
  rcases hx.2 with ⟨h1, h2⟩ | ⟨g, cap, cur, h1, _⟩
  · simp at h1
  · simp only [Value.slice.injEq] at h1
    obtain ⟨h1, _, _⟩ := h1
    cases h1
    exact fun j => hx'.frozenAt j
theorem since_only {a w w' : World} (h : Since a w) (ho : Only a.heap.size w w') : Since a w' := Below.trans h (ho.below (Nat.le_refl _) h.size)
theorem One.grown {w w' : World} {b m : Nat} {f : ByteArray → Option Value} {A : Option Addr} {x : Int} (h : One w A x) (hm : MapIs w b f m) (hg : w.grownBy w' (some b)) : One w' A x := by
  obtain ⟨bd, od, rfl, h1, h2⟩ := h
  have hn := hm.ne_cell h2
  exact ⟨bd, od, rfl, Nat.lt_of_lt_of_le h1 hg.size, (World.cell?_of_block (a := ⟨bd, od, none⟩) (hg.block bd h1 (fun e => hn (by injection e)))).trans h2⟩
theorem Known.come {w w' : World} {b m m9 k : Nat} {f : ByteArray → Option Value} {ns : List ByteArray} {x : Int} {s : ByteArray} {Ad : Option Addr} {cd : Nat} (hmap : MapIs w b f m) (hf : ∀ (j : Nat) (t : ByteArray), j < k → ns[j]? = some t → ∃ Ad cd, f t = some (.agg #[.string t, .int .i64 6, .slice Ad 1 cd]) ∧ One w Ad x) (hs : ns[k]? = some s) (hone : One w Ad x)
    (h9 : MapIs w' b (upd f s (.agg #[.string s, .int .i64 6, .slice Ad 1 cd])) m9) (hm9 : m9 ≤ k + 1) (hg : w.grownBy w' (some b)) : Known w' b ns x (k + 1) := by
  refine ⟨_, m9, hm9, h9, fun j t hj ht => ?_⟩
  by_cases e : t = s
  · subst e
    exact ⟨Ad, cd, by simp [upd], hone.grown hmap hg⟩
  · rcases Nat.lt_or_ge j k with h1 | h1
    · obtain ⟨A1, c1, q1, q2⟩ := hf j t h1 ht
      exact ⟨A1, c1, by simp [upd, e, q1], q2.grown hmap hg⟩
    · obtain rfl : j = k := by omega
      rw [hs] at ht
      cases ht
      exact absurd rfl e
set_option maxHeartbeats 6400000 in
theorem abegin_any (gn : ByteArray) (An Ai Ao : Option Addr) (cn ci co : Nat) (l : List Op1) (x : Nat) (w : World) (h : FlatG w An Ai Ao l x) :
    Calls Tryz.prog 57 #[.agg #[.string gn, .slice An l.length cn, .slice Ai 1 ci, .slice Ao l.length co, .slice none 0 0]] w (ABeg gn An Ai Ao cn ci co l x w) := by
  have H := Lib.hid h
  have H5 := h.ok.most
  have H0 := h.ok.pos
  have hnl : (l.length : Int) ≤ 5 := by omega
  have hmm := @run_makeMap Tryz.prog
  clear h
  go_enter Tryz.func57, Tryz.ntmps57
  go_wp2_with fail
  refine newX (F := fun W => Calls _ _ _ W _) ?_
  intro w1 h1
  refine (all_any gn An Ai Ao cn ci co l x w1 (H.out.below h1.below)).mono ?_
  rintro e w2 ⟨A, c, rfl, hv, hb⟩
  have HX := Lib.hid (h1.all hb)
  have HV := Lib.hid hv
  have n0 : w.heap.size < w2.heap.size := (h1.all hb).size
  clear hb h1 hv
  go_wp2_with fail
  refine newX (F := fun W => Code.wp _ _ _ _ W) ?_
  intro wm hwm
  have HWM := Lib.hid hwm
  clear hwm
  go_loopw [36] (fun i wr => ∃ k : Nat, k ≤ l.length + 1 ∧ i = .int .i64 k ∧ Since w2 wr ∧ w2.heap.size < wr.heap.size ∧ Known wr w2.heap.size (⟨#[120]⟩ :: l.map (·.out)) x k) (fun i _ => l.length + 1 - (intOf i).toNat)
  case atStart => exact ⟨0, by omega, rfl, HWM.out.below, HWM.out.size, _, 0, Nat.le_refl _, mapIs_new (HWM.out.b0 rfl), fun j s hj => by omega⟩
  case round =>
    obtain ⟨k, hk, rfl, hs, hz, hkn⟩ := hrel
    by_cases hlt : k < l.length + 1
    · obtain ⟨b, off, rfl, hb, hc⟩ := HV.out.below hs
      obtain ⟨s, hs'⟩ : ∃ s, (⟨#[120]⟩ :: l.map (·.out))[k]? = some s := ⟨_, List.getElem?_eq_getElem (by simpa using hlt)⟩
      obtain ⟨Ad, cd, q0, q1, q2, q3⟩ := hc k s hs'
      have hlt' : (k : Int) < l.length + 1 := by omega
      have hsh : s.size ≤ 1000 := by
        cases k with
        | zero => cases hs'; decide
        | succ k =>
          rw [List.getElem?_cons_succ, List.getElem?_map] at hs'
          obtain ⟨o, ho, rfl⟩ : ∃ o, l[k]? = some o ∧ o.out = s := by
            cases h : l[k]? with
            | none => rw [h] at hs'; cases hs'
            | some o => rw [h] at hs'; exact ⟨o, rfl, by cases hs'; rfl⟩
          exact H.out.ok.short o (List.mem_of_getElem? ho)
      obtain ⟨f, m, hm, hmap, hf⟩ := hkn.since (below_new wr (.cells #[.string s, .int .i64 6, .slice Ad 1 cd] 28))
      obtain ⟨w9, hr9, hm9, hg9⟩ := hmap.put Tryz.und223 hsh (by omega) (.agg #[.string s, .int .i64 6, .slice Ad 1 cd])
      have HS := Lib.hid hs
      have HF := Lib.hid hf
      have HMAP := Lib.hid hmap
      have HM9 := Lib.hid hm9
      have HG9 := Lib.hid hg9
      have HSS := Lib.hid hs'
      have HQ3 := Lib.hid q3
      clear hs hkn hc hs' hf hmap hm9 hg9 q3
      go_wp2_with fail
      have hon : Only w2.heap.size wr w9 := Only.trans (only_of_since _ ((Since.refl wr).al _)) (grown_only HG9.out)
      refine ⟨⟨k + 1, by omega, by go_num, since_only HS.out hon, by have := hon.size; omega, Known.come HMAP.out HF.out HSS.out (HQ3.out.below (below_new _ _)) HM9.out (by split <;> omega) HG9.out⟩, by simp [intOf]; omega⟩
    · obtain rfl : k = l.length + 1 := by omega
      have hF := H.out.below (HX.out.all hs).below
      have hO := order_any gn An Ai Ao cn ci co l x wr hF
      obtain ⟨r0, r1, r2, r3, r4, -⟩ := cells5 ((HX.out.all hs).b0 rfl)
      have HS := Lib.hid hs
      have HKN := Lib.hid hkn
      clear hs hkn hF
      go_wp2_with fail
      refine hO.mono ?_
      rintro e w3 ⟨Aq, cq, rfl, hq, hb3⟩
      have HS3 := Lib.hid (HS.out.trans hb3)
      have HKN3 := Lib.hid (HKN.out.since hb3)
      have HQ := Lib.hid hq
      have hx3 := HX.out.all (HS.out.trans hb3)
      have HX3 := Lib.hid hx3
      obtain ⟨r0, r1, r2, r3, r4, -⟩ := cells5 (hx3.b0 rfl)
      have n3 : w.heap.size < w3.heap.size := hx3.size
      have n33 : w2.heap.size < w3.heap.size := Nat.lt_of_lt_of_le hz hb3.size
      clear hO hq hb3 hx3 hz
      go_wp2_with fail
      have hp := fx1 w3 (.cells #[.string gn, .slice An l.length cn, .slice Ai 1 ci, .slice Ao l.length co, .slice none 0 0, .slice none 0 0, .slice none 0 0, .slice none 0 0, .slice none 0 0, .slice none 0 0, .int .i64 0, .slice none 0 0, .slice none 0 0] 135)
      refine (before_any gn An Ai Ao cn ci co l x _ (H.out.below (HX3.out.all hp.below).below)).mono ?_
      rintro e w5 ⟨AB, rfl, hb5⟩
      have hp5 := hp.all hb5
      have g5 := hp5.b0 rfl
      have c5 : w5.cell? ⟨w3.heap.size, 5, none⟩ = some (.slice none 0 0) := cell_of_row _ _ 5 _ 135 (0, 0) g5
      have f5 := frozen_row g5 5
      have HP5 := Lib.hid hp5
      have G5 := Lib.hid g5
      clear hp hb5 hp5 g5 r0 r1 r2 r3 r4
      go_wp2_with fail
      have HPL : Hid (PlSt w3 (w5.setCell ⟨w3.heap.size, 5, none⟩ (.slice AB l.length l.length)) (fun _ => 0) gn An Ai Ao cn ci co l.length (.slice AB l.length l.length) (.slice none 0 0) (.slice none 0 0) (.slice none 0 0) [] [] []) :=
        Lib.hid ⟨HP5.out.below.setCell (Nat.le_refl _) _, by simpa using heap_setCell_same _ _ 5 _ _ (.slice AB l.length l.length) G5.out, ol_nil _ _ _ _ _ _, ol_nil _ _ _ _ _ _, ol_nil _ _ _ _ _ _, fresh_none _⟩
      obtain ⟨rows, hrr⟩ := H.out.nodes.raw
      have HRw := Lib.hid hrr
      have HR := Lib.hid (hrr.since HX3.out.below)
      have hrl := hrr.len
      have hu : up8 (4 * x) ≤ 120 := up8_le (by have := H.out.hi; omega)
      have hU : ∀ w, Calls Tryz.prog 60 #[.int .i64 (4 * (x : Int))] w fun e w' => e = .returned (.int .i64 (up8 (4 * x) : Nat)) ∧ w' = w := fun w => by
        have h := up_any (4 * x) (by have := H.out.hi; omega) w
        rw [show (4 * (x : Int)) = ((4 * x : Nat) : Int) by omega]
        exact h
      clear hrr c5 f5
      go_loopw [13, 63] (fun v i wr => ∃ k : Nat, k ≤ l.length ∧ i = .int .i64 k ∧ v = .int .i64 (k * up8 (4 * x) : Nat) ∧ ∃ (lab : Nat → Nat) (V O : Value) (vs os : List (List Value)), PlSt w3 wr lab gn An Ai Ao cn ci co l.length (.slice AB l.length l.length) V (.slice none 0 0) O vs os [] ∧ (∀ j, j ≤ w3.heap.size → lab j = 0) ∧ vs.length = k ∧ os = List.replicate k [.bool true] ∧ ∀ (j : Nat) (r : List Value), vs[j]? = some r → ∃ (r0 : List Value) (o : Op1), rows[j]? = some r0 ∧ l[j]? = some o ∧ r = r0 ++ [.int .i64 6, .string o.out, .int .i64 0, .int .i64 (4 * (x : Int))]) (fun _ i _ => l.length - (intOf i).toNat)
      case atStart => exact ⟨0, by omega, rfl, by rw [Nat.zero_mul]; rfl, _, _, _, [], [], HPL.out, fun _ _ => rfl, rfl, rfl, fun j r h => by simp at h⟩
      case round =>
        obtain ⟨k, hk, rfl, rfl, lab, V, O, vs, os, hs, hlab, hvl, rfl, hvs⟩ := hrel
        by_cases hlt : k < l.length
        · have hmb : k * up8 (4 * x) ≤ 5 * 120 := Nat.mul_le_mul (by omega) hu
          generalize hm : k * up8 (4 * x) = m at hmb ⊢
          have hmi : (m : Int) ≤ 600 := by omega
          have hui : (up8 (4 * x) : Int) ≤ 120 := by omega
          obtain ⟨bq, oq, rfl, hbq, hcq⟩ := HQ.out.below hs.below
          have cq0 := hcq k hlt
          obtain ⟨r0, r1, r2, r3, r4, -⟩ := cells5 ((HX3.out.all hs.below).b0 rfl)
          obtain ⟨hl, bn, offn, rfl, hbn, hcn⟩ := HR.out.since hs.below
          obtain ⟨r, hr⟩ : ∃ r, rows[k]? = some r := ⟨_, List.getElem?_eq_getElem (by rw [hl]; exact hlt)⟩
          obtain ⟨o, nm, A', c', ho, hre, hx, hcells⟩ := hcn k r hr
          subst hre
          have q0 := hcells 0 (by omega)
          have q1 := hcells 1 (by omega)
          have q2 := hcells 2 (by omega)
          have q3 := hcells 3 (by omega)
          have q4 := hcells 4 (by omega)
          simp only [Nat.add_zero, List.getElem?_cons_zero, List.getElem?_cons_succ] at q0 q1 q2 q3 q4
          have hsz := hs.size
          have hkw := HKN3.out.since (hs.below.trans ((Since.refl _).al (.cells #[.string o.op, .string nm, .slice A' o.m c', .string o.out, .slice none 0 0] 37)))
          obtain ⟨f, mm, hmm', hmap, hf⟩ := hkw
          obtain ⟨Ad, cd, hfo, hone⟩ := hf (k + 1) o.out (by omega) (by rw [List.getElem?_cons_succ, List.getElem?_map, ho]; rfl)
          have hlk := hmap.look (s := o.out) Tryz.und223 (zero28 _) (H.out.ok.short o (List.mem_of_getElem? ho))
          rw [hfo] at hlk
          simp only [Option.getD_some] at hlk
          have HW := fun W (hW : Since (wr.alloc (.cells #[.string o.op, .string nm, .slice A' o.m c', .string o.out, .slice none 0 0] 37)) W) => width_any o.out Ad cd x W (hone.below hW) H.out.lo H.out.hi
          have nwr : w.heap.size < wr.heap.size := by have := hs.below.size; omega
          have HS := Lib.hid hs
          have HRR := Lib.hid hr
          have HLO := Lib.hid ho
          have HVS := Lib.hid hvs
          have HWW := Lib.hid HW
          clear hs hvs hcq hcn hcells hr ho hx hf hmap hone HW hl
          go_wp2_with (first | (go_at_call 122; refine (HWW.out _ ((Since.refl _).al _)).mono ?_; rintro e w6 ⟨rfl, hb6⟩) | (go_at_call 60; refine (hU _).mono ?_; rintro e w7 ⟨rfl, rfl⟩))
          have hfx := (fx2 wr (.cells #[.string o.op, .string nm, .slice A' o.m c', .string o.out, .slice none 0 0] 37) (.cells #[.string o.out, .int .i64 6, .slice Ad 1 cd] 28)).all hb6
          obtain ⟨s0, s1, s2, s3, s4, -⟩ := cells5 (hfx.b0 rfl)
          obtain ⟨t0, t1, t2, -⟩ := cells3 (hfx.b1 rfl)
          have hs7 := HS.out.since hfx.below
          obtain ⟨Av, cvv, hVV⟩ := hs7.ov.form
          rw [hvl] at hVV
          subst hVV
          have p6 : w7.cell? ⟨w3.heap.size, 6, none⟩ = some (.slice Av k cvv) := cell_of_row _ _ 6 _ 135 (0, 0) hs7.row
          have HS7 := Lib.hid (hs7.since (Since.refl w7).dr)
          have HFX := Lib.hid hfx
          obtain ⟨i140, hi140⟩ : ∃ i, Tryz.prog.info? 140 = some i ∧ i.zero = some (.agg #[.string ⟨#[]⟩, .string ⟨#[]⟩, .slice none 0 0, .string ⟨#[]⟩, .slice none 0 0, .int .i64 0, .string ⟨#[]⟩, .int .i64 0, .int .i64 0]) ∧ i.size = 9 ∧ i.bytes = 136 := by
            obtain ⟨i, h1, h2, h3, h4⟩ := info_parts Tryz.info140
            exact ⟨i, h1, h2, h3, h4⟩
          have HI := Lib.hid hi140
          have z7 : w3.heap.size < w7.heap.size := hs7.size
          have z8 : wr.heap.size + 1 < w7.heap.size := hfx.size
          have z9 : wr.heap.size < w7.heap.size := by omega
          clear hfx hs7 hb6 hi140
          go_cut [63] from 63 to 115 (fun v wx => v = .int .i64 k ∧ ∃ (lab : Nat → Nat) (V : Value) (vs : List (List Value)), PlSt w3 wx lab gn (some ⟨bn, offn, none⟩) Ai Ao cn ci co l.length (.slice AB l.length l.length) V (.slice none 0 0) O vs (List.replicate k [.bool true]) [] ∧ (∀ j, j ≤ w3.heap.size → lab j = 0) ∧ vs.length = k + 1 ∧ (∀ (j : Nat) (r : List Value), vs[j]? = some r → ∃ (r0 : List Value) (o : Op1), rows[j]? = some r0 ∧ l[j]? = some o ∧ r = r0 ++ [.int .i64 6, .string o.out, .int .i64 0, .int .i64 (4 * (x : Int))]) ∧ wx.heap[wr.heap.size]? = some (.cells #[.string o.op, .string nm, .slice A' o.m c', .string o.out, .slice none 0 0] 37 (0, 0)))
          case first =>
            first | (go_region_law (first
              | (refine step_append_o w7.drew (repRaw 9) [.string o.op, .string nm, .slice A' o.m c', .string o.out, .slice none 0 0, .int .i64 6, .string o.out, .int .i64 0, .int .i64 (4 * (x : Int))] [.string o.op, .string nm, .slice A' o.m c', .string o.out, .slice none 0 0, .int .i64 6, .string o.out, .int .i64 0, .int .i64 (4 * (x : Int))] rfl (.tmp 89) (.tmp 98) 131 rfl 140 i140 _ 136 Tryz.underlying131 HI.out.1 HI.out.2.1 HI.out.2.2.1 HI.out.2.2.2 rfl (by decide) (by decide) lab 1 (by decide) (w3.heap.size + 1) (.slice Av k cvv) vs rfl HS7.out.ov HS7.out.fresh ⟨rfl, rfl, by simp [Value.oneCell']⟩ w7.drew.heap.size rfl rfl (by omega) z7 ?_; intro v' w8 lab' ho8 hg8; obtain ⟨A8, c8, e8⟩ := ho8.form; rw [List.length_append, hvl] at e8; subst e8; have hgr := HS7.out.grew (by decide) hlab hg8; have y6 : w8.cell? ⟨w3.heap.size, 6, none⟩ = some (.slice Av k cvv) := cell_of_row _ _ 6 _ 135 (0, 0) (hgr.2.trans HS7.out.row); have yf := frozen_row (hgr.2.trans HS7.out.row) 6))) | fail
            all_goals
              obtain ⟨hs8, hlab8⟩ := HS7.out.putV hlab ho8 hg8
              have hvs8 : ∀ (j : Nat) (r : List Value), (vs ++ [([.string o.op, .string nm, .slice A' o.m c', .string o.out, .slice none 0 0, .int .i64 6, .string o.out, .int .i64 0, .int .i64 (4 * (x : Int))] : List Value)])[j]? = some r → ∃ (r0 : List Value) (o : Op1), rows[j]? = some r0 ∧ l[j]? = some o ∧ r = r0 ++ [.int .i64 6, .string o.out, .int .i64 0, .int .i64 (4 * (x : Int))] := by
                intro j r hj
                rcases Nat.lt_or_ge j vs.length with h1 | h1
                · rw [List.getElem?_append_left h1] at hj
                  exact HVS.out j r hj
                · rw [List.getElem?_append_right h1] at hj
                  have h2 : j - vs.length = 0 := by
                    rcases Nat.eq_zero_or_pos (j - vs.length) with h2 | h2
                    · exact h2
                    · rw [List.getElem?_eq_none (by simp; omega)] at hj
                      cases hj
                  rw [h2] at hj
                  cases hj
                  obtain rfl : j = k := by omega
                  exact ⟨_, o, HRR.out, HLO.out, rfl⟩
              have hvl8 : (vs ++ [([.string o.op, .string nm, .slice A' o.m c', .string o.out, .slice none 0 0, .int .i64 6, .string o.out, .int .i64 0, .int .i64 (4 * (x : Int))] : List Value)]).length = k + 1 := by rw [List.length_append, hvl]; rfl
              have hnb : w8.heap[wr.heap.size]? = some (.cells #[.string o.op, .string nm, .slice A' o.m c', .string o.out, .slice none 0 0] 37 (0, 0)) := (hg8.keep wr.heap.size z9 (by rw [HS.out.fresh _ (Nat.le_refl _)]; decide)).trans (HFX.out.b0 rfl)
              go_wp2_with fail
              go_meet
              exact ⟨rfl, lab', _, _, hs8, hlab8, hvl8, hvs8, (Below.heap_setCell _ _ _ _ (by show wr.heap.size ≠ w3.heap.size; omega)).trans hnb⟩
          case rest =>
            obtain ⟨rfl, lab2, V2, vs2, hs8, hlab8, hvl8, hvs8, hnb8⟩ := hcut
            obtain ⟨Av2, cv2, hV2⟩ := hs8.oo.form
            rw [List.length_replicate] at hV2
            subst hV2
            have HS8 := Lib.hid (hs8.since (Since.refl wc).dr)
            have p8 : wc.cell? ⟨w3.heap.size, 8, none⟩ = some (.slice Av2 k cv2) := cell_of_row _ _ 8 _ 135 (0, 0) hs8.row
            obtain ⟨-, -, -, x3, -⟩ := cells5 ((HX3.out.all hs8.below).b0 rfl)
            have hwc : Below w.heap.size w wc.drew := (HX3.out.all hs8.below).below.drew
            obtain ⟨-, -, -, y3, -⟩ := cells5 hnb8
            have HC := Lib.hid (has105c Ao co l x H.out.ok wr.heap.size wc.drew k o HLO.out (H.out.outs.below hwc) y3)
            obtain ⟨i4, hi4⟩ : ∃ i, Tryz.prog.info? 4 = some i ∧ i.zero = some (.bool false) ∧ i.size = 1 ∧ i.bytes = 1 := by
              obtain ⟨i, h1, h2, h3, h4⟩ := info_parts Tryz.info4'
              exact ⟨i, h1, h2, h3, h4⟩
            have HJ := Lib.hid hi4
            have z10 : w3.heap.size < wc.heap.size := hs8.size
            have nwc : w.heap.size < wc.heap.size := by omega
            clear hs8 hi4 hnb8 y3 hwc
            go_wp2_with fail
            first | (go_region_law (first
              | (go_simp; go_at_call 105; refine HC.out.mono ?_; rintro e w10 ⟨rfl, hs10⟩; have h10 := HS8.out.since hs10; have p8' : w10.cell? ⟨w3.heap.size, 8, none⟩ = some (.slice Av2 k cv2) := cell_of_row _ _ 8 _ 135 (0, 0) h10.row; have z11 : w3.heap.size < w10.heap.size := h10.size; have H10 := Lib.hid h10; clear h10 hs10; dsimp only)
              | (refine step_append_o w10 (repRaw 1) [.bool true] [.bool true] rfl (.tmp 106) (.tmp 111) 133 rfl 4 i4 _ 1 Tryz.underlying133 HJ.out.1 HJ.out.2.1 HJ.out.2.2.1 HJ.out.2.2.2 rfl (by decide) (by decide) lab2 2 (by decide) (w3.heap.size + 1) (.slice Av2 k cv2) (List.replicate k [.bool true]) rfl H10.out.oo H10.out.fresh ⟨rfl, rfl, by simp [Value.oneCell']⟩ w10.heap.size rfl rfl (by rw [List.length_replicate]; omega) z11 ?_; intro v' w11 lab3 ho11 hg11; obtain ⟨A11, c11, e11⟩ := ho11.form; rw [List.length_append, List.length_replicate] at e11; subst e11; have hgr := H10.out.grew (by decide) hlab8 hg11; have y8 : w11.cell? ⟨w3.heap.size, 8, none⟩ = some (.slice Av2 k cv2) := cell_of_row _ _ 8 _ 135 (0, 0) (hgr.2.trans H10.out.row); have yf8 := frozen_row (hgr.2.trans H10.out.row) 8))) | fail
            all_goals
              obtain ⟨hs11, hlab11⟩ := H10.out.putO hlab8 ho11 hg11
              have HS11 := Lib.hid hs11
              clear hs11 ho11 hg11 hgr
              go_wp2_with fail
              go_roundw
              case rel => exact ⟨k + 1, by omega, by go_num, by rw [Nat.add_mul, Nat.one_mul, hm, Int.natCast_add], lab3, V2, _, vs2, _, HS11.out, hlab11, hvl8, by rw [List.replicate_succ'], hvs8⟩
              case measure => simp [intOf]; omega
        · obtain rfl : k = l.length := by omega
          obtain ⟨bV, cV, hV, hVl, hVs, -⟩ := hs.ov.own.raw (by decide) (by omega)
          rw [hvl] at hV
          subst hV
          obtain ⟨bO, cO, hO, hOl, hOs, -⟩ := hs.oo.own.raw (by decide) (by rw [List.length_replicate]; exact H0)
          rw [List.length_replicate] at hO
          subst hO
          have p6 : wr.cell? ⟨w3.heap.size, 6, none⟩ = some (.slice (some ⟨bV, 0, none⟩) l.length cV) := cell_of_row _ _ 6 _ 135 (0, 0) hs.row
          have hmb : l.length * up8 (4 * x) ≤ 5 * 120 := Nat.mul_le_mul (by omega) hu
          generalize hm : l.length * up8 (4 * x) = m at hmb ⊢
          have hmi : (m : Int) ≤ 600 := by omega
          have HS0 := Lib.hid hs
          have HVS := Lib.hid hvs
          have hlab0 := hlab
          clear hs hvs
          go_wp2_with fail
          go_loopw [121] (fun i wr => ∃ k : Nat, k ≤ l.length ∧ i = .int .i64 k ∧ ∃ (lab : Nat → Nat) (R : Value), PlSt w3 wr lab gn An Ai Ao cn ci co l.length (.slice AB l.length l.length) (.slice (some ⟨bV, 0, none⟩) l.length cV) R (.slice (some ⟨bO, 0, none⟩) l.length cO) vs (List.replicate l.length [.bool true]) (List.replicate k [.slice none 0 0]) ∧ (∀ j, j ≤ w3.heap.size → lab j = 0)) (fun i _ => l.length - (intOf i).toNat)
          case atStart => exact ⟨0, by omega, rfl, _, _, HS0.out, hlab0⟩
          case round =>
            obtain ⟨k, hk, rfl, lab1, R, hs, hlab⟩ := hrel
            by_cases hlt : k < l.length
            · obtain ⟨b', c', hV', -, hbs, hcl⟩ := hs.ov.own.raw (by decide) (by omega)
              simp only [Value.slice.injEq, Option.some.injEq, Addr.mk.injEq, and_true] at hV'
              obtain ⟨rfl, -, rfl⟩ := hV'
              obtain ⟨r, hr⟩ : ∃ r, vs[k]? = some r := ⟨_, List.getElem?_eq_getElem (by omega)⟩
              obtain ⟨r0, o, hr0, ho, rfl⟩ := HVS.out k r hr
              obtain ⟨hl, bn, offn, rfl, hbn, hcn⟩ := HR.out.since hs.below
              obtain ⟨o', nm, A', c', ho', hre, hx, -⟩ := hcn k r0 hr0
              rw [ho] at ho'
              cases ho'
              subst hre
              have hcells := hcl k _ hr
              have q0 := hcells 0 (by omega)
              have q1 := hcells 1 (by omega)
              have q2 := hcells 2 (by omega)
              have q3 := hcells 3 (by omega)
              have q4 := hcells 4 (by omega)
              have q5 := hcells 5 (by omega)
              have q6 := hcells 6 (by omega)
              have q7 := hcells 7 (by omega)
              have q8 := hcells 8 (by omega)
              simp only [Nat.add_zero, List.getElem?_cons_zero, List.getElem?_cons_succ, List.cons_append, List.nil_append] at q0 q1 q2 q3 q4 q5 q6 q7 q8
              have p6 : wr.cell? ⟨w3.heap.size, 6, none⟩ = some (.slice (some ⟨bV, 0, none⟩) l.length cV) := cell_of_row _ _ 6 _ 135 (0, 0) hs.row
              have z0 := hs.size
              have HS := Lib.hid hs
              have HCL := Lib.hid hcl
              have HCN := Lib.hid hcn
              clear hs hcl hcells hcn hr hr0 hx
              go_wp2_with fail
              refine newX (F := fun W => Code.wp _ _ _ _ W) ?_
              intro w10 h10
              have HX10 := Lib.hid h10
              clear h10
              go_loopw [22, 130] (fun v i wy => ∃ j : Nat, j ≤ l.length ∧ i = .int .i64 j ∧ v = .slice none 0 0 ∧ Fx wr wy [some (.cells #[.string o.op, .string nm, .slice A' o.m c', .string o.out, .slice none 0 0, .int .i64 6, .string o.out, .int .i64 0, .int .i64 (4 * (x : Int))] 140)]) (fun _ i _ => l.length - (intOf i).toNat)
              case atStart => exact ⟨0, by omega, rfl, rfl, HX10.out⟩
              case round =>
                obtain ⟨j, hj, rfl, rfl, hy⟩ := hrel
                have g0 := hy.b0 rfl
                have zy : _ < wr.heap.size := hy.size
                by_cases hjl : j < l.length
                · obtain ⟨r, hr⟩ : ∃ r, vs[j]? = some r := ⟨_, List.getElem?_eq_getElem (by omega)⟩
                  obtain ⟨r0, oj, hr0, hoj, rfl⟩ := HVS.out j r hr
                  obtain ⟨oj', nmj, Aj, cj, hoj', hre, hx, -⟩ := HCN.out j r0 hr0
                  rw [hoj] at hoj'
                  cases hoj'
                  subst hre
                  have hcells := HCL.out j _ hr
                  have ce : ∀ i, wr.cell? ⟨bV, i, none⟩ = _ := fun i => hy.below.cell (p := ⟨bV, i, none⟩) hbs
                  have q0 := (ce _).trans (hcells 0 (by omega))
                  have q1 := (ce _).trans (hcells 1 (by omega))
                  have q2 := (ce _).trans (hcells 2 (by omega))
                  have q3 := (ce _).trans (hcells 3 (by omega))
                  have q4 := (ce _).trans (hcells 4 (by omega))
                  have q5 := (ce _).trans (hcells 5 (by omega))
                  have q6 := (ce _).trans (hcells 6 (by omega))
                  have q7 := (ce _).trans (hcells 7 (by omega))
                  have q8 := (ce _).trans (hcells 8 (by omega))
                  simp only [Nat.add_zero, List.getElem?_cons_zero, List.getElem?_cons_succ, List.cons_append, List.nil_append] at q0 q1 q2 q3 q4 q5 q6 q7 q8
                  have y3 := cell_of_row _ _ 3 _ 140 (0, 0) g0
                  simp only [List.getElem?_toArray, List.getElem?_cons_zero, List.getElem?_cons_succ] at y3
                  have hC := fun W (hW : Since _ W) => has_other o.out (out_toList H.out.ok (List.mem_of_getElem? ho)) oj.m (H.out.ok.ops oj (List.mem_of_getElem? hoj)).cases Aj cj W (hx.below (Since.trans hy.below hW))
                  have HY := Lib.hid hy
                  have HC := Lib.hid hC
                  clear hy hr hr0 hcells ce hx hC g0
                  go_wp2_with (go_at_call 124; refine (HC.out _ ((Since.refl _).al _)).mono ?_; rintro e w12 ⟨rfl, rfl⟩)
                  go_roundw
                  case rel => exact ⟨j + 1, by omega, by go_num, rfl, HY.out.new _⟩
                  case measure => simp [intOf]; omega
                · obtain rfl : j = l.length := by omega
                  have hs12 := HS.out.since hy.below
                  obtain ⟨Ar, cr, hR⟩ := hs12.or_.form
                  rw [List.length_replicate] at hR
                  subst hR
                  have p7 := cell_of_row _ _ 7 _ 135 (0, 0) hs12.row
                  simp only [List.getElem?_toArray, List.getElem?_cons_zero, List.getElem?_cons_succ] at p7
                  have zz := hs12.size
                  have HS12 := Lib.hid hs12
                  obtain ⟨i23, hi23⟩ : ∃ i, Tryz.prog.info? 23 = some i ∧ i.zero = some (.slice none 0 0) ∧ i.size = 1 ∧ i.bytes = 24 := by
                    obtain ⟨i, h1, h2, h3, h4⟩ := info_parts Tryz.info23'
                    exact ⟨i, h1, h2, h3, h4⟩
                  have HJ := Lib.hid hi23
                  clear hs12 hy g0 hi23
                  go_wp2_with (at_builtin; refine wpList_append_o _ (repRaw 1) [.slice none 0 0] [.slice none 0 0] rfl (.tmp 151) (.tmp 153) 132 rfl 23 i23 _ 24 Tryz.underlying132 HJ.out.1 HJ.out.2.1 HJ.out.2.2.1 HJ.out.2.2.2 rfl (by decide) (by decide) lab1 3 (by decide) (w3.heap.size + 1) (.slice Ar k cr) (List.replicate k [.slice none 0 0]) rfl HS12.out.or_ HS12.out.fresh ⟨rfl, rfl, by simp [Value.oneCell']⟩ _ rfl rfl (by rw [List.length_replicate]; omega) zz ?_; intro v' w14 lab2 ho14 hg14; obtain ⟨A14, c14, e14⟩ := ho14.form; rw [List.length_append, List.length_replicate] at e14; subst e14; have hgr := HS12.out.grew (by decide) hlab hg14; have y7 : w14.cell? ⟨w3.heap.size, 7, none⟩ = some (.slice Ar k cr) := cell_of_row _ _ 7 _ 135 (0, 0) (hgr.2.trans HS12.out.row); have yf7 := frozen_row (hgr.2.trans HS12.out.row) 7)
                  obtain ⟨hs15, hl15⟩ := HS12.out.putR hlab ho14 hg14
                  exact ⟨⟨k + 1, by omega, by go_num, lab2, _, by rw [List.replicate_succ']; exact hs15, hl15⟩, by simp [intOf]; omega⟩
            · obtain rfl : k = l.length := by omega
              have hmk := make_bools l.length (by omega)
              have p6 : wr.cell? ⟨w3.heap.size, 6, none⟩ = some (.slice (some ⟨bV, 0, none⟩) l.length cV) := cell_of_row _ _ 6 _ 135 (0, 0) hs.row
              have p9 : wr.cell? ⟨w3.heap.size, 9, none⟩ = some (.slice none 0 0) := cell_of_row _ _ 9 _ 135 (0, 0) hs.row
              have f9 := frozen_row hs.row 9
              have z0 := hs.size
              have HS := Lib.hid hs
              clear hs
              go_wp2_with fail
              refine bodyPost_ret (results_tmp3 rfl _ _ _) rfl ?_
              generalize hT : Value.slice (some ⟨wr.heap.size, 0, none⟩) l.length l.length = T
              generalize hO9 : Obj.cells (madeCells #[.bool false] l.length) 4 = o9
              have hb9 := below_new (wr.setCell ⟨w3.heap.size, 9, none⟩ T) o9
              have hovf := (HS.out.ov.set_far (a := ⟨w3.heap.size, 9, none⟩) (Nat.lt_succ_self _) T).below hb9
              have hoof := (HS.out.oo.set_far (a := ⟨w3.heap.size, 9, none⟩) (Nat.lt_succ_self _) T).below hb9
              have hrow := heap_setCell_same _ _ 9 _ _ T HS.out.row
              have hrowf := (hb9.block w3.heap.size (Array.getElem?_eq_some_iff.1 hrow).1).trans hrow
              have hsf : Since w3 ((wr.setCell ⟨w3.heap.size, 9, none⟩ T).alloc o9) := Below.trans (HS.out.below.setCell (Nat.le_refl _) T) (hb9.mono (by have := HS.out.below.size; simp [World.setCell]; omega))
              have hbw := (HX3.out.all hsf).below
              generalize (wr.setCell ⟨w3.heap.size, 9, none⟩ T).alloc o9 = wf at *
              have hw3 := HX3.out.below.size
              obtain ⟨bV', cV', e1, hV1, hV2, hV3⟩ := hovf.own.raw (by decide) (by omega)
              simp only [Value.slice.injEq, Option.some.injEq, Addr.mk.injEq, and_true] at e1
              obtain ⟨rfl, -, rfl⟩ := e1
              obtain ⟨bO', cO', e2, hO1, hO2, hO3⟩ := hoof.own.raw (by decide) (by rw [List.length_replicate]; exact H0)
              simp only [Value.slice.injEq, Option.some.injEq, Addr.mk.injEq, and_true] at e2
              obtain ⟨rfl, -, rfl⟩ := e2
              have hne : bV ≠ bO := by
                rintro rfl
                have h1 := hovf.mark bV rfl
                have h2 := hoof.mark bV rfl
                rw [h1] at h2
                cases h2
              refine ⟨w3.heap.size, bV, cV, bO, cO, _, _, _, by rw [hm]; rfl, hrowf, ⟨hV2, hovf.frozen, fun j o ho => ?_⟩, fun j hj => ?_, by omega, by omega, hne, hw3, by omega, by omega, hbw⟩
              · obtain ⟨r, hr⟩ : ∃ r, vs[j]? = some r := ⟨_, List.getElem?_eq_getElem (by rw [hvl]; exact (List.getElem?_eq_some_iff.1 ho).1)⟩
                obtain ⟨r0, oj, hr0, hoj, rfl⟩ := HVS.out j r hr
                rw [ho] at hoj
                cases hoj
                obtain ⟨hl, bn, offn, rfl, hbn, hcn⟩ := HRw.out
                obtain ⟨oj', nmj, Aj, cj, hoj', hre, hx, -⟩ := hcn j r0 hr0
                rw [ho] at hoj'
                cases hoj'
                subst hre
                have hcells := hV3 j _ hr
                obtain ⟨b2, off2, rfl, hb2, hc2⟩ := id hx
                refine ⟨nmj, _, cj, hcells 0 (by omega), hcells 1 (by omega), hcells 2 (by omega), hcells 3 (by omega), hcells 4 (by omega), hcells 5 (by omega), hcells 6 (by omega), hcells 7 (by omega), hcells 8 (by omega), hx.below hbw, ?_⟩
                rintro a ha
                cases ha
                exact ⟨hb2, by show b2 ≠ bV; omega⟩
              · have h := hO3 j [.bool true] (by rw [List.getElem?_replicate, if_pos hj]) 0 (by decide)
                rw [Nat.mul_one] at h
                exact h
end Go.Proofs.YtbilddeepnnogaaGreatDoor
