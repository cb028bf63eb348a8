/- The walks: the reference's form of a field. -/
import Derived.Test.YtpnieegaemfffaaWx
namespace Go.Proofs.Ytpnieegaemfffaa
open Go.RowKit

theorem u64_bd (x : Int) : 0 ≤ IntKind.u64.wrap x ∧ IntKind.u64.wrap x < B64 := by
  unfold B64
  simp [IntKind.wrap, IntKind.signed, IntKind.bits]
  omega

set_option maxRecDepth 100000 in
set_option maxHeartbeats 1600000 in
theorem one_0 (num u : Int) (w : World) (n1 : 1 ≤ num) (n2 : num ≤ 536870911) (u0 : 0 ≤ u) (u1 : u < B64) : Calls Try.prog 30 #[(Fd.mk num 0 u ⟨#[]⟩).val] w (OneIs ⟨num, 0, u, ⟨#[]⟩⟩ w) := by
  have U1 := Lib.hid u1
  clear u1
  unfold Fd.val
  have hq : ¬ 9223372036854775807 < (strOfNums (venc (num * 8))).size + (strOfNums (venc u)).size := by
    have := venc_sz (num * 8)
    have := venc_sz u
    omega
  go_enter Try.func30, Try.ntmps30
  go_wp2_with fail
  refine (rvarint_w _ _ (by omega) (by unfold B64; omega)).mono ?_
  rintro e w1 ⟨rfl, hb1⟩
  have c2 : w1.cell? ⟨w.heap.size, 2, none⟩ = some (.int .u64 u) := (hb1.cell (by simp)).trans (cell_of_row _ _ 2 _ 35 (0, 0) (heap_alloc_new w _))
  have c1 : w1.cell? ⟨w.heap.size, 1, none⟩ = some (.int .i64 0) := (hb1.cell (by simp)).trans (cell_of_row _ _ 1 _ 35 (0, 0) (heap_alloc_new w _))
  have Hb1 := Lib.hid (((Below.refl w.heap.size w).alloc (Nat.le_refl _) _).trans (hb1.mono (by simp)))
  have z1 := Hb1.out.size
  clear hb1
  go_wp2_with fail
  refine (rvarint_w u _ u0 U1.out).mono ?_
  rintro e w2 ⟨rfl, hb2⟩
  have Hb2 := Lib.hid (Hb1.out.trans (hb2.mono z1))
  clear hb2
  go_wp2
  go_ret2
  exact one_yes Hb2.out ⟨n1, n2, .inl ⟨rfl, rfl⟩⟩ (by simp [formB, headB, contB])

set_option maxRecDepth 100000 in
set_option maxHeartbeats 1600000 in
theorem one_o (num kind u : Int) (w : World) (n1 : 1 ≤ num) (n2 : num ≤ 536870911) (k0 : kind ≠ 0) (k1 : kind ≠ 1) (k2 : kind ≠ 2) (k5 : kind ≠ 5) (r0 : -9223372036854775808 ≤ kind) (r1 : kind ≤ 9223372036854775807) : Calls Try.prog 30 #[(Fd.mk num kind u ⟨#[]⟩).val] w (OneIs ⟨num, kind, u, ⟨#[]⟩⟩ w) := by
  have e0 : (kind == 0) = false := by simpa using k0
  have e1 : (kind == 1) = false := by simpa using k1
  have e2 : (kind == 2) = false := by simpa using k2
  have e5 : (kind == 5) = false := by simpa using k5
  have hno : Hid (¬ GoodF ⟨num, kind, u, ⟨#[]⟩⟩) := Lib.hid (fun h => by rcases h.2.2 with ⟨h, _⟩ | ⟨h, _⟩ | ⟨h, _⟩ | ⟨h, _⟩ <;> first | exact k0 h | exact k1 h | exact k2 h | exact k5 h)
  unfold Fd.val
  go_enter Try.func30, Try.ntmps30
  go_wp2_with fail
  refine (rvarint_w _ _ (u64_bd _).1 (u64_bd _).2).mono ?_
  rintro e w1 ⟨rfl, hb1⟩
  have c1 : w1.cell? ⟨w.heap.size, 1, none⟩ = some (.int .i64 kind) := (hb1.cell (by simp)).trans (cell_of_row _ _ 1 _ 35 (0, 0) (heap_alloc_new w _))
  have Hb1 := Lib.hid (((Below.refl w.heap.size w).alloc (Nat.le_refl _) _).trans (hb1.mono (by simp)))
  clear hb1
  go_wp2
  go_ret2
  exact one_no Hb1.out hno.out

set_option maxRecDepth 100000 in
set_option maxHeartbeats 1600000 in
theorem one_2 (num : Int) (b : ByteArray) (w : World) (n1 : 1 ≤ num) (n2 : num ≤ 536870911) (hz : b.size ≤ 140737488351232) : Calls Try.prog 30 #[(Fd.mk num 2 0 b).val] w (OneIs ⟨num, 2, 0, b⟩ w) := by
  unfold Fd.val
  have T : ∀ w, Calls Try.prog 12 #[.int .u64 (IntKind.u64.wrap (b.size : Int))] w fun e w' => e = .returned (.string (strOfNums (venc b.size))) ∧ Below w.heap.size w w' := fun w => by
    rw [IntWalk.u64_in _ ⟨by omega, by omega⟩]
    exact rvarint_w (b.size : Int) w (by omega) (by unfold B64; omega)
  have HT := Lib.hid T
  clear T
  have hq : ¬ 9223372036854775807 < (strOfNums (venc (num * 8 + 2))).size + (strOfNums (venc (b.size : Int))).size := by
    have := venc_sz (num * 8 + 2)
    have := venc_sz b.size
    omega
  have hq2 : ¬ 9223372036854775807 < (strOfNums (venc (num * 8 + 2))).size + (strOfNums (venc (b.size : Int))).size + b.size := by
    have := venc_sz (num * 8 + 2)
    have := venc_sz b.size
    omega
  go_enter Try.func30, Try.ntmps30
  go_wp2_with fail
  refine (rvarint_w _ _ (by omega) (by unfold B64; omega)).mono ?_
  rintro e w1 ⟨rfl, hb1⟩
  have c3 : w1.cell? ⟨w.heap.size, 3, none⟩ = some (.string b) := (hb1.cell (by simp)).trans (cell_of_row _ _ 3 _ 35 (0, 0) (heap_alloc_new w _))
  have c1 : w1.cell? ⟨w.heap.size, 1, none⟩ = some (.int .i64 2) := (hb1.cell (by simp)).trans (cell_of_row _ _ 1 _ 35 (0, 0) (heap_alloc_new w _))
  have hz1 : w.heap.size < w1.heap.size := Nat.lt_of_lt_of_le (by simp) hb1.size
  have kb := ((Below.refl w.heap.size w).alloc (Nat.le_refl _) (.cells #[.int .i64 num, .int .i64 2, .int .u64 0, .string b] 35)).trans (hb1.mono (by simp))
  clear hb1
  go_wp2_with fail
  go_region_held3 (fun W => W.cell? ⟨w.heap.size, 3, none⟩ = some (.string b)) (first | exact c3 | exact j3 | assumption | go_keep)
    (first | (go_at_call 12; refine (HT.out _).mono ?_; rintro e w2 ⟨rfl, hb2⟩; have j3 : w2.cell? ⟨w.heap.size, 3, none⟩ = some (.string b) := (hb2.cell hz1).trans c3; have J1 := Lib.hid (Below.trans (below_drewN kb 1) (hb2.mono (Nat.le_of_lt hz1))); clear hb2))
  all_goals
    go_wp2
    go_ret2
    exact one_yes J1.out ⟨n1, n2, .inr (.inr (.inr ⟨rfl, rfl⟩))⟩ (by simp [formB, headB, contB, ByteArray.append_assoc])

/-- The bytes of a number one by one. -/
theorem byt_step (u : Int) (k : Nat) : u / 256 ^ k / 256 = u / 256 ^ (k + 1) := by
  rw [Int.pow_succ, Int.ediv_ediv_of_nonneg (Int.pow_nonneg (by omega))]
theorem leS_step (u : Int) (k : Nat) : leS (k + 1) u = leS k u ++ [byt u k] := by simp [leS, List.range_succ]

set_option maxRecDepth 100000 in
set_option maxHeartbeats 1600000 in
theorem one_1 (num u : Int) (w : World) (n1 : 1 ≤ num) (n2 : num ≤ 536870911) (u0 : 0 ≤ u) (u1 : u < B64) : Calls Try.prog 30 #[(Fd.mk num 1 u ⟨#[]⟩).val] w (OneIs ⟨num, 1, u, ⟨#[]⟩⟩ w) := by
  unfold Fd.val
  obtain ⟨i0, hi, hz0, hz1, hz2⟩ := info_parts Try.info5
  have Hcv := Lib.hid (fun wx v l B (h : OwnB wx B v l) => run_string_own (P := Try.prog) wx 50 9 Try.underlying50 Try.underlying5 Try.underlying9 B v l h)
  have hq : ¬ 9223372036854775807 < (strOfNums (venc (num * 8 + 1))).size + (strOfNums (leS 8 u)).size := by
    have := venc_sz (num * 8 + 1)
    rw [strOfNums_size (leS 8 u)]
    simp [leS]
    omega
  have hyb : ∀ k, 0 ≤ u / 256 ^ k ∧ u / 256 ^ k < B64 := fun k => ⟨Int.ediv_nonneg u0 (Int.pow_nonneg (by omega)), Int.lt_of_le_of_lt (Int.ediv_le_self _ u0) (u1)⟩
  have Hyb := Lib.hid hyb
  have U1 := Lib.hid u1
  clear hyb u1
  go_enter Try.func30, Try.ntmps30
  go_wp2_with fail
  refine (rvarint_w _ _ (by omega) (by unfold B64; omega)).mono ?_
  rintro e w1 ⟨rfl, hb1⟩
  have c2 : w1.cell? ⟨w.heap.size, 2, none⟩ = some (.int .u64 u) := (hb1.cell (by simp)).trans (cell_of_row _ _ 2 _ 35 (0, 0) (heap_alloc_new w _))
  have c1 : w1.cell? ⟨w.heap.size, 1, none⟩ = some (.int .i64 1) := (hb1.cell (by simp)).trans (cell_of_row _ _ 1 _ 35 (0, 0) (heap_alloc_new w _))
  have Hb1 := Lib.hid (((Below.refl w.heap.size w).alloc (Nat.le_refl _) _).trans (hb1.mono (by simp)))
  have z1 := Hb1.out.size
  clear hb1
  go_wp2_with fail
  go_loopw [6, 7, 8] (fun v x i wr => ∃ k : Nat, k ≤ 8 ∧ i = .int .i64 k ∧ x = .int .u64 (u / 256 ^ k) ∧ OwnB wr w.heap.size v (leS k u) ∧ Below w.heap.size w wr) (fun _ _ i _ => 8 - (intOf i).toNat)
  case atStart => exact ⟨0, by omega, rfl, by simp, ownB_nil _ _, Hb1.out⟩
  case round =>
    obtain ⟨k, hk, rfl, rfl, ho, hb⟩ := hrel
    have hsz := hb.size
    by_cases hlt : k < 8
    · have hll : (leS k u).length = k := by simp [leS]
      obtain ⟨y, hy⟩ : ∃ y, y = u / 256 ^ k := ⟨_, rfl⟩
      have Y := Lib.hid hy
      have y0 := (Hyb.out k).1
      have y1 := (Hyb.out k).2
      rw [← hy] at y0 y1
      unfold B64 at y1
      simp only [← hy]
      clear hy
      go_wp2_with (at_builtin; refine wpList_append_b1 wr _ rfl (.tmp 87) (.tmp 91) 50 rfl i0 Try.underlying50 hi hz0 hz1 hz2 w.heap.size _ (leS k u) rfl ho rfl (by omega) hsz ?_; intro v' w2 hown hgrow)
      go_roundw
      case rel =>
        refine ⟨k + 1, by omega, by go_num, ?_, ?_, ownB_below ho hb hgrow hsz⟩
        · rw [← byt_step, ← Y.out]
        · have e : byt u k = y % 256 := by unfold byt; rw [← Y.out]
          rw [leS_step, e]; exact hown
      case measure => simp [intOf]; omega
    · obtain rfl : k = 8 := by omega
      have hc := Hcv.out _ _ _ _ ho
      have Hb := Lib.hid hb
      clear ho hb
      go_wp2
      go_ret2
      exact one_yes Hb.out ⟨n1, n2, .inr (.inl ⟨rfl, rfl⟩)⟩ (by simp [formB, headB, contB])

set_option maxRecDepth 100000 in
set_option maxHeartbeats 1600000 in
theorem one_5 (num u : Int) (w : World) (n1 : 1 ≤ num) (n2 : num ≤ 536870911) (u0 : 0 ≤ u) (u1 : u ≤ 4294967295) : Calls Try.prog 30 #[(Fd.mk num 5 u ⟨#[]⟩).val] w (OneIs ⟨num, 5, u, ⟨#[]⟩⟩ w) := by
  unfold Fd.val
  obtain ⟨i0, hi, hz0, hz1, hz2⟩ := info_parts Try.info5
  have Hcv := Lib.hid (fun wx v l B (h : OwnB wx B v l) => run_string_own (P := Try.prog) wx 50 9 Try.underlying50 Try.underlying5 Try.underlying9 B v l h)
  have hq : ¬ 9223372036854775807 < (strOfNums (venc (num * 8 + 5))).size + (strOfNums (leS 4 u)).size := by
    have := venc_sz (num * 8 + 5)
    rw [strOfNums_size (leS 4 u)]
    simp [leS]
    omega
  have hyb : ∀ k, 0 ≤ u / 256 ^ k ∧ u / 256 ^ k < B64 := fun k => ⟨Int.ediv_nonneg u0 (Int.pow_nonneg (by omega)), Int.lt_of_le_of_lt (Int.ediv_le_self _ u0) (by unfold B64; omega)⟩
  have Hyb := Lib.hid hyb
  have U1 := Lib.hid u1
  clear hyb
  go_enter Try.func30, Try.ntmps30
  go_wp2_with fail
  refine (rvarint_w _ _ (by omega) (by unfold B64; omega)).mono ?_
  rintro e w1 ⟨rfl, hb1⟩
  have c2 : w1.cell? ⟨w.heap.size, 2, none⟩ = some (.int .u64 u) := (hb1.cell (by simp)).trans (cell_of_row _ _ 2 _ 35 (0, 0) (heap_alloc_new w _))
  have c1 : w1.cell? ⟨w.heap.size, 1, none⟩ = some (.int .i64 5) := (hb1.cell (by simp)).trans (cell_of_row _ _ 1 _ 35 (0, 0) (heap_alloc_new w _))
  have Hb1 := Lib.hid (((Below.refl w.heap.size w).alloc (Nat.le_refl _) _).trans (hb1.mono (by simp)))
  have z1 := Hb1.out.size
  clear hb1
  go_wp2_with fail
  go_loopw [6, 7, 8] (fun v x i wr => ∃ k : Nat, k ≤ 4 ∧ i = .int .i64 k ∧ x = .int .u64 (u / 256 ^ k) ∧ OwnB wr w.heap.size v (leS k u) ∧ Below w.heap.size w wr) (fun _ _ i _ => 4 - (intOf i).toNat)
  case atStart => exact ⟨0, by omega, rfl, by simp, ownB_nil _ _, Hb1.out⟩
  case round =>
    obtain ⟨k, hk, rfl, rfl, ho, hb⟩ := hrel
    have hsz := hb.size
    by_cases hlt : k < 4
    · have hll : (leS k u).length = k := by simp [leS]
      obtain ⟨y, hy⟩ : ∃ y, y = u / 256 ^ k := ⟨_, rfl⟩
      have Y := Lib.hid hy
      have y0 := (Hyb.out k).1
      have y1 := (Hyb.out k).2
      rw [← hy] at y0 y1
      unfold B64 at y1
      simp only [← hy]
      clear hy
      go_wp2_with (at_builtin; refine wpList_append_b1 wr _ rfl (.tmp 87) (.tmp 91) 50 rfl i0 Try.underlying50 hi hz0 hz1 hz2 w.heap.size _ (leS k u) rfl ho rfl (by omega) hsz ?_; intro v' w2 hown hgrow)
      go_roundw
      case rel =>
        refine ⟨k + 1, by omega, by go_num, ?_, ?_, ownB_below ho hb hgrow hsz⟩
        · rw [← byt_step, ← Y.out]
        · have e : byt u k = y % 256 := by unfold byt; rw [← Y.out]
          rw [leS_step, e]; exact hown
      case measure => simp [intOf]; omega
    · obtain rfl : k = 4 := by omega
      have hc := Hcv.out _ _ _ _ ho
      have Hb := Lib.hid hb
      clear ho hb
      go_wp2
      go_ret2
      exact one_yes Hb.out ⟨n1, n2, .inr (.inr (.inl ⟨rfl, rfl, U1.out⟩))⟩ (by simp [formB, headB, contB])

set_option maxRecDepth 100000 in
set_option maxHeartbeats 1600000 in
theorem one_5b (num u : Int) (w : World) (n1 : 1 ≤ num) (n2 : num ≤ 536870911) (u1 : 4294967295 < u) : Calls Try.prog 30 #[(Fd.mk num 5 u ⟨#[]⟩).val] w (OneIs ⟨num, 5, u, ⟨#[]⟩⟩ w) := by
  unfold Fd.val
  have U1 := Lib.hid u1
  go_enter Try.func30, Try.ntmps30
  go_wp2_with fail
  refine (rvarint_w _ _ (by omega) (by unfold B64; omega)).mono ?_
  rintro e w1 ⟨rfl, hb1⟩
  have c2 : w1.cell? ⟨w.heap.size, 2, none⟩ = some (.int .u64 u) := (hb1.cell (by simp)).trans (cell_of_row _ _ 2 _ 35 (0, 0) (heap_alloc_new w _))
  have c1 : w1.cell? ⟨w.heap.size, 1, none⟩ = some (.int .i64 5) := (hb1.cell (by simp)).trans (cell_of_row _ _ 1 _ 35 (0, 0) (heap_alloc_new w _))
  have Hb1 := Lib.hid (((Below.refl w.heap.size w).alloc (Nat.le_refl _) _).trans (hb1.mono (by simp)))
  clear hb1
  go_wp2
  go_ret2
  exact one_no Hb1.out (fun h => by rcases h.2.2 with ⟨h, _⟩ | ⟨h, _⟩ | ⟨_, _, h⟩ | ⟨h, _⟩ <;> dsimp only at h <;> first | omega | (have := U1.out; omega))
theorem one_any (f : Fd) (w : World) (h : FdOk f) : Calls Try.prog 30 #[f.val] w (OneIs f w) := by
  obtain ⟨num, kind, u, b⟩ := f
  by_cases hbad : num < 1 ∨ 536870911 < num ∨ (kind ≠ 2 ∧ b ≠ ⟨#[]⟩) ∨ (kind = 2 ∧ u ≠ 0)
  · exact one_bad num kind u b w hbad
  have n1 : 1 ≤ num := by
    rcases Int.lt_or_le num 1 with h | h
    · exact absurd (.inl h) hbad
    · exact h
  have n2 : num ≤ 536870911 := by
    rcases Int.lt_or_le 536870911 num with h | h
    · exact absurd (.inr (.inl h)) hbad
    · exact h
  by_cases k2 : kind = 2
  · subst k2
    by_cases hu : u = 0
    · subst hu; exact one_2 num b w n1 n2 h.b
    · exact absurd (.inr (.inr (.inr ⟨rfl, hu⟩))) hbad
  have hb : b = ⟨#[]⟩ := by
    by_cases hb : b = ⟨#[]⟩
    · exact hb
    · exact absurd (.inr (.inr (.inl ⟨k2, hb⟩))) hbad
  subst hb
  by_cases k0 : kind = 0
  · subst k0; exact one_0 num u w n1 n2 h.u0 h.u1
  by_cases k1 : kind = 1
  · subst k1; exact one_1 num u w n1 n2 h.u0 h.u1
  by_cases k5 : kind = 5
  · subst k5
    rcases Int.lt_or_le 4294967295 u with hu | hu
    · exact one_5b num u w n1 n2 hu
    · exact one_5 num u w n1 n2 h.u0 hu
  exact one_o num kind u w n1 n2 k0 k1 k2 k5 h.k0 h.k1
end Go.Proofs.Ytpnieegaemfffaa
