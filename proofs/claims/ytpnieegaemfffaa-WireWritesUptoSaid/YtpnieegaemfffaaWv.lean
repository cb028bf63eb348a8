/- The walks: what stands behind a field's head, of a text. -/
import Derived.Test.YtpnieegaemfffaaWt
import Derived.Deep.RegionLaw
import Derived.BigRegion
namespace Go.Proofs.Ytpnieegaemfffaa
open Go.RowKit

set_option maxRecDepth 100000 in
set_option maxHeartbeats 1600000 in
theorem content_2 (num u : Int) (b : ByteArray) (w : World) (h : FdOk ⟨num, 2, u, b⟩) : Calls Try.prog 29 #[(Fd.mk num 2 u b).val] w (ContIs ⟨num, 2, u, b⟩ w) := by
  have h0 := h.u0
  have H1 := Lib.hid h.u1
  have hz : b.size ≤ 140737488351232 := h.b
  dsimp only at h0
  clear h
  unfold Fd.val
  have T : ∀ w, Calls Try.prog 11 #[.int .u64 (IntKind.u64.wrap (b.size : Int))] w fun e w' => e = .returned (.string (strOfNums (venc b.size))) ∧ Below w.heap.size w w' := fun w => by
    rw [IntWalk.u64_in _ ⟨by omega, by omega⟩]
    exact varint_w (b.size : Int) w (by omega) (by unfold B64; omega)
  have hq : ¬ 9223372036854775807 < (strOfNums (venc (b.size : Int))).size + b.size := by
    rw [strOfNums_size]
    have := (vencF_len 9 (b.size : Int)).2
    unfold venc; omega
  have HT := Lib.hid T
  clear T
  by_cases hn : num < 1
  · go_enter Try.func29, Try.ntmps29
    go_wp2_with fail
    have d1 : decide (1 ≤ num) = false := by simp; omega
    have q1 : ¬ 1 ≤ num := by omega
    have k0 : (w.alloc (.cells #[.int .i64 num, .int .i64 2, .int .u64 u, .string b] 35)).cell? ⟨w.heap.size, 0, none⟩ = some (.int .i64 num) := cell_of_row _ _ 0 _ 35 (0, 0) (heap_alloc_new w _)
    have k2 : (w.alloc (.cells #[.int .i64 num, .int .i64 2, .int .u64 u, .string b] 35)).cell? ⟨w.heap.size, 2, none⟩ = some (.int .u64 u) := cell_of_row _ _ 2 _ 35 (0, 0) (heap_alloc_new w _)
    have k3 : (w.alloc (.cells #[.int .i64 num, .int .i64 2, .int .u64 u, .string b] 35)).cell? ⟨w.heap.size, 3, none⟩ = some (.string b) := cell_of_row _ _ 3 _ 35 (0, 0) (heap_alloc_new w _)
    have kb : Below w.heap.size w (w.alloc (.cells #[.int .i64 num, .int .i64 2, .int .u64 u, .string b] 35)) := (Below.refl _ _).alloc (Nat.le_refl _) _
    have kz : w.heap.size < (w.alloc (.cells #[.int .i64 num, .int .i64 2, .int .u64 u, .string b] 35)).heap.size := by simp
    generalize w.alloc (.cells #[.int .i64 num, .int .i64 2, .int .u64 u, .string b] 35) = W0 at k0 k2 k3 kb kz ⊢
    refine wp_region_held_drew (S := fun W => W.cell? ⟨w.heap.size, 0, none⟩ = some (.int .i64 num) ∧ W.cell? ⟨w.heap.size, 2, none⟩ = some (.int .u64 u) ∧ W.cell? ⟨w.heap.size, 3, none⟩ = some (.string b)) (by kernel_rfl) ⟨k0, k2, k3⟩ (fun hHeld => ?_)
    refine wpAnyH_take (i := 0) (v := ?_) rfl (by kernel_rfl) (by kernel_rfl) (by kernel_rfl) (fun _ _ _ h => h) (Or.inl ⟨by rfl, ?_⟩) (by assumption) ?_
    rotate_left
    · first | (intro w hSw; (try dsimp only at hSw); go_simp; done) | (intro w hSw; (try dsimp only at hSw); go_simp; with_reducible rfl)
    try simp only [Act.put, List.getElem_toArray, List.getElem_cons_zero, List.getElem_cons_succ, List.setIfInBounds_toArray, List.set_cons_zero, List.set_cons_succ]
    refine wpAnyH_take (i := 1) (v := ?_) rfl (by kernel_rfl) (by kernel_rfl) (by kernel_rfl) (fun _ _ _ h => h) (Or.inl ⟨by rfl, ?_⟩) (by assumption) ?_
    rotate_left
    · first | (intro w hSw; (try dsimp only at hSw); go_simp; done) | (intro w hSw; (try dsimp only at hSw); go_simp; with_reducible rfl)
    try simp only [Act.put, List.getElem_toArray, List.getElem_cons_zero, List.getElem_cons_succ, List.setIfInBounds_toArray, List.set_cons_zero, List.set_cons_succ]
    refine wpAnyH_take (i := 2) (v := ?_) rfl (by kernel_rfl) (by kernel_rfl) (by kernel_rfl) (fun _ _ _ h => h) (Or.inl ⟨by rfl, ?_⟩) (by assumption) ?_
    rotate_left
    · first | (intro w hSw; (try dsimp only at hSw); go_simp; done) | (intro w hSw; (try dsimp only at hSw); go_simp; with_reducible rfl)
    try simp only [Act.put, List.getElem_toArray, List.getElem_cons_zero, List.getElem_cons_succ, List.setIfInBounds_toArray, List.set_cons_zero, List.set_cons_succ]
    refine wpAnyH_take (i := 3) (v := ?_) rfl (by kernel_rfl) (by kernel_rfl) (by kernel_rfl) (fun _ _ _ h => h) (Or.inl ⟨by rfl, ?_⟩) (by assumption) ?_
    rotate_left
    · first | (intro w hSw; (try dsimp only at hSw); go_simp; done) | (intro w hSw; (try dsimp only at hSw); go_simp; with_reducible rfl)
    try simp only [Act.put, List.getElem_toArray, List.getElem_cons_zero, List.getElem_cons_succ, List.setIfInBounds_toArray, List.set_cons_zero, List.set_cons_succ]
    refine wpAnyH_take (i := 5) (v := ?_) rfl (by kernel_rfl) (by kernel_rfl) (by kernel_rfl) (fun _ _ _ h => h) (Or.inl ⟨by rfl, ?_⟩) (by assumption) ?_
    rotate_left
    · first | (intro w hSw; (try dsimp only at hSw); go_simp; done) | (intro w hSw; (try dsimp only at hSw); go_simp; with_reducible rfl)
    try simp only [Act.put, List.getElem_toArray, List.getElem_cons_zero, List.getElem_cons_succ, List.setIfInBounds_toArray, List.set_cons_zero, List.set_cons_succ]
    refine wpAnyH_take (i := 6) (v := ?_) rfl (by kernel_rfl) (by kernel_rfl) (by kernel_rfl) (fun _ _ _ h => h) (Or.inl ⟨by rfl, ?_⟩) (by assumption) ?_
    rotate_left
    · first | (intro w hSw; (try dsimp only at hSw); go_simp; done) | (intro w hSw; (try dsimp only at hSw); go_simp; with_reducible rfl)
    try simp only [Act.put, List.getElem_toArray, List.getElem_cons_zero, List.getElem_cons_succ, List.setIfInBounds_toArray, List.set_cons_zero, List.set_cons_succ]
    refine wpAnyH_take (i := 8) (v := ?_) rfl (by kernel_rfl) (by kernel_rfl) (by kernel_rfl) (fun _ _ _ h => h) (Or.inl ⟨by rfl, ?_⟩) (by assumption) ?_
    rotate_left
    · first | (intro w hSw; (try dsimp only at hSw); go_simp; done) | (intro w hSw; (try dsimp only at hSw); go_simp; with_reducible rfl)
    try simp only [Act.put, List.getElem_toArray, List.getElem_cons_zero, List.getElem_cons_succ, List.setIfInBounds_toArray, List.set_cons_zero, List.set_cons_succ]
    refine wpAnyH_take (i := 9) (v := ?_) rfl (by kernel_rfl) (by kernel_rfl) (by kernel_rfl) (fun _ _ _ h => h) (Or.inl ⟨by rfl, ?_⟩) (by assumption) ?_
    rotate_left
    · first | (intro w hSw; (try dsimp only at hSw); go_simp; done) | (intro w hSw; (try dsimp only at hSw); go_simp; with_reducible rfl)
    try simp only [Act.put, List.getElem_toArray, List.getElem_cons_zero, List.getElem_cons_succ, List.setIfInBounds_toArray, List.set_cons_zero, List.set_cons_succ]
    refine wpAnyH_take (i := 10) (v := ?_) rfl (by kernel_rfl) (by kernel_rfl) (by kernel_rfl) (fun _ _ _ h => h) (Or.inl ⟨by rfl, ?_⟩) (by assumption) ?_
    rotate_left
    · first | (intro w hSw; (try dsimp only at hSw); go_simp; done) | (intro w hSw; (try dsimp only at hSw); go_simp; with_reducible rfl)
    try simp only [Act.put, List.getElem_toArray, List.getElem_cons_zero, List.getElem_cons_succ, List.setIfInBounds_toArray, List.set_cons_zero, List.set_cons_succ]
    refine wpAnyH_ready (rs := [4]) (by kernel_rfl) (by simp) ?_
    refine AllReadyH.cons rfl (fun K hK => ?_) AllReadyH.nil
    go_simp
    go_at_call 11; refine (HT.out _).mono ?_; rintro e w1 ⟨rfl, hb1⟩; have j0 : w1.cell? ⟨w.heap.size, 0, none⟩ = some (.int .i64 num) := (hb1.cell kz).trans k0; have j2 : w1.cell? ⟨w.heap.size, 2, none⟩ = some (.int .u64 u) := (hb1.cell kz).trans k2; have j3 : w1.cell? ⟨w.heap.size, 3, none⟩ = some (.string b) := (hb1.cell kz).trans k3; have J1 := Lib.hid (Below.trans (below_drewN kb 1) (hb1.mono (Nat.le_of_lt kz))); clear hb1; dsimp only
    refine hK.out _ _ (⟨j0, j2, j3⟩) (fun hHeld => ?_)
    clear hK K
    try simp only [Act.put, List.getElem_toArray, List.getElem_cons_zero, List.getElem_cons_succ, List.setIfInBounds_toArray, List.set_cons_zero, List.set_cons_succ]
    refine wpAnyH_take (i := 7) (v := ?_) rfl (by kernel_rfl) (by kernel_rfl) (by kernel_rfl) (fun _ _ _ h => h) (Or.inl ⟨by rfl, ?_⟩) (by assumption) ?_
    rotate_left
    · first | (intro w hSw; (try dsimp only at hSw); go_simp; done) | (intro w hSw; (try dsimp only at hSw); go_simp; with_reducible rfl)
    try simp only [Act.put, List.getElem_toArray, List.getElem_cons_zero, List.getElem_cons_succ, List.setIfInBounds_toArray, List.set_cons_zero, List.set_cons_succ]
    refine wpAnyH_take (i := 11) (v := ?_) rfl (by kernel_rfl) (by kernel_rfl) (by kernel_rfl) (fun _ _ _ h => h) (Or.inl ⟨by rfl, ?_⟩) (by assumption) ?_
    rotate_left
    · first | (intro w hSw; (try dsimp only at hSw); go_simp; done) | (intro w hSw; (try dsimp only at hSw); go_simp; with_reducible rfl)
    try simp only [Act.put, List.getElem_toArray, List.getElem_cons_zero, List.getElem_cons_succ, List.setIfInBounds_toArray, List.set_cons_zero, List.set_cons_succ]
    refine wpAnyH_take (i := 12) (v := undef) rfl (by kernel_rfl) (by kernel_rfl) (by kernel_rfl) (fun _ _ _ h => h) (Or.inr ⟨by rfl, rfl⟩) (by assumption) ?_
    try simp only [Act.put, List.getElem_toArray, List.getElem_cons_zero, List.getElem_cons_succ, List.setIfInBounds_toArray, List.set_cons_zero, List.set_cons_succ]
    refine wpAnyH_take (i := 13) (v := undef) rfl (by kernel_rfl) (by kernel_rfl) (by kernel_rfl) (fun _ _ _ h => h) (Or.inr ⟨by rfl, rfl⟩) (by assumption) ?_
    try simp only [Act.put, List.getElem_toArray, List.getElem_cons_zero, List.getElem_cons_succ, List.setIfInBounds_toArray, List.set_cons_zero, List.set_cons_succ]
    refine wpAnyH_take (i := 14) (v := undef) rfl (by kernel_rfl) (by kernel_rfl) (by kernel_rfl) (fun _ _ _ h => h) (Or.inr ⟨by rfl, rfl⟩) (by assumption) ?_
    try simp only [Act.put, List.getElem_toArray, List.getElem_cons_zero, List.getElem_cons_succ, List.setIfInBounds_toArray, List.set_cons_zero, List.set_cons_succ]
    refine wpAnyH_take (i := 15) (v := ?_) rfl (by kernel_rfl) (by kernel_rfl) (by kernel_rfl) (fun _ _ _ h => h) (Or.inl ⟨by rfl, ?_⟩) (by assumption) ?_
    rotate_left
    · first | (intro w hSw; (try dsimp only at hSw); go_simp; done) | (intro w hSw; (try dsimp only at hSw); go_simp; with_reducible rfl)
    try simp only [Act.put, List.getElem_toArray, List.getElem_cons_zero, List.getElem_cons_succ, List.setIfInBounds_toArray, List.set_cons_zero, List.set_cons_succ]
    refine wpAnyH_take (i := 16) (v := ?_) rfl (by kernel_rfl) (by kernel_rfl) (by kernel_rfl) (fun _ _ _ h => h) (Or.inl ⟨by rfl, ?_⟩) (by assumption) ?_
    rotate_left
    · first | (intro w hSw; (try dsimp only at hSw); go_simp; done) | (intro w hSw; (try dsimp only at hSw); go_simp; with_reducible rfl)
    try simp only [Act.put, List.getElem_toArray, List.getElem_cons_zero, List.getElem_cons_succ, List.setIfInBounds_toArray, List.set_cons_zero, List.set_cons_succ]
    refine wpAnyH_take (i := 17) (v := undef) rfl (by kernel_rfl) (by kernel_rfl) (by kernel_rfl) (fun _ _ _ h => h) (Or.inr ⟨by rfl, rfl⟩) (by assumption) ?_
    try simp only [Act.put, List.getElem_toArray, List.getElem_cons_zero, List.getElem_cons_succ, List.setIfInBounds_toArray, List.set_cons_zero, List.set_cons_succ]
    refine wpAnyH_take (i := 18) (v := undef) rfl (by kernel_rfl) (by kernel_rfl) (by kernel_rfl) (fun _ _ _ h => h) (Or.inr ⟨by rfl, rfl⟩) (by assumption) ?_
    try simp only [Act.put, List.getElem_toArray, List.getElem_cons_zero, List.getElem_cons_succ, List.setIfInBounds_toArray, List.set_cons_zero, List.set_cons_succ]
    refine wpAnyH_take (i := 19) (v := undef) rfl (by kernel_rfl) (by kernel_rfl) (by kernel_rfl) (fun _ _ _ h => h) (Or.inr ⟨by rfl, rfl⟩) (by assumption) ?_
    try simp only [Act.put, List.getElem_toArray, List.getElem_cons_zero, List.getElem_cons_succ, List.setIfInBounds_toArray, List.set_cons_zero, List.set_cons_succ]
    refine wpAnyH_take (i := 20) (v := ?_) rfl (by kernel_rfl) (by kernel_rfl) (by kernel_rfl) (fun _ _ _ h => h) (Or.inl ⟨by rfl, ?_⟩) (by assumption) ?_
    rotate_left
    · first | (intro w hSw; (try dsimp only at hSw); go_simp; done) | (intro w hSw; (try dsimp only at hSw); go_simp; with_reducible rfl)
    try simp only [Act.put, List.getElem_toArray, List.getElem_cons_zero, List.getElem_cons_succ, List.setIfInBounds_toArray, List.set_cons_zero, List.set_cons_succ]
    refine wpAnyH_take (i := 21) (v := ?_) rfl (by kernel_rfl) (by kernel_rfl) (by kernel_rfl) (fun _ _ _ h => h) (Or.inl ⟨by rfl, ?_⟩) (by assumption) ?_
    rotate_left
    · first | (intro w hSw; (try dsimp only at hSw); go_simp; done) | (intro w hSw; (try dsimp only at hSw); go_simp; with_reducible rfl)
    try simp only [Act.put, List.getElem_toArray, List.getElem_cons_zero, List.getElem_cons_succ, List.setIfInBounds_toArray, List.set_cons_zero, List.set_cons_succ]
    refine wpAnyH_take (i := 22) (v := ?_) rfl (by kernel_rfl) (by kernel_rfl) (by kernel_rfl) (fun _ _ _ h => h) (Or.inl ⟨by rfl, ?_⟩) (by assumption) ?_
    rotate_left
    · first | (intro w hSw; (try dsimp only at hSw); go_simp; done) | (intro w hSw; (try dsimp only at hSw); go_simp; with_reducible rfl)
    try simp only [Act.put, List.getElem_toArray, List.getElem_cons_zero, List.getElem_cons_succ, List.setIfInBounds_toArray, List.set_cons_zero, List.set_cons_succ]
    refine wpAnyH_done (by kernel_rfl) ?_ _
    all_goals
      go_wp2
      go_ret2
      exact cont_ret J1.out (fun h => by cases h) (fun _ h => by have := h.1; dsimp only at this; omega)
  by_cases hn2 : 536870911 < num
  · go_enter Try.func29, Try.ntmps29
    go_wp2_with fail
    have d1 : decide (1 ≤ num) = true := by simp; omega
    have q1 : 1 ≤ num := by omega
    have d2 : decide (num ≤ 536870911) = false := by simp; omega
    have q2 : ¬ num ≤ 536870911 := by omega
    have k0 : (w.alloc (.cells #[.int .i64 num, .int .i64 2, .int .u64 u, .string b] 35)).cell? ⟨w.heap.size, 0, none⟩ = some (.int .i64 num) := cell_of_row _ _ 0 _ 35 (0, 0) (heap_alloc_new w _)
    have k2 : (w.alloc (.cells #[.int .i64 num, .int .i64 2, .int .u64 u, .string b] 35)).cell? ⟨w.heap.size, 2, none⟩ = some (.int .u64 u) := cell_of_row _ _ 2 _ 35 (0, 0) (heap_alloc_new w _)
    have k3 : (w.alloc (.cells #[.int .i64 num, .int .i64 2, .int .u64 u, .string b] 35)).cell? ⟨w.heap.size, 3, none⟩ = some (.string b) := cell_of_row _ _ 3 _ 35 (0, 0) (heap_alloc_new w _)
    have kb : Below w.heap.size w (w.alloc (.cells #[.int .i64 num, .int .i64 2, .int .u64 u, .string b] 35)) := (Below.refl _ _).alloc (Nat.le_refl _) _
    have kz : w.heap.size < (w.alloc (.cells #[.int .i64 num, .int .i64 2, .int .u64 u, .string b] 35)).heap.size := by simp
    generalize w.alloc (.cells #[.int .i64 num, .int .i64 2, .int .u64 u, .string b] 35) = W0 at k0 k2 k3 kb kz ⊢
    refine wp_region_held_drew (S := fun W => W.cell? ⟨w.heap.size, 0, none⟩ = some (.int .i64 num) ∧ W.cell? ⟨w.heap.size, 2, none⟩ = some (.int .u64 u) ∧ W.cell? ⟨w.heap.size, 3, none⟩ = some (.string b)) (by kernel_rfl) ⟨k0, k2, k3⟩ (fun hHeld => ?_)
    refine wpAnyH_take (i := 0) (v := ?_) rfl (by kernel_rfl) (by kernel_rfl) (by kernel_rfl) (fun _ _ _ h => h) (Or.inl ⟨by rfl, ?_⟩) (by assumption) ?_
    rotate_left
    · first | (intro w hSw; (try dsimp only at hSw); go_simp; done) | (intro w hSw; (try dsimp only at hSw); go_simp; with_reducible rfl)
    try simp only [Act.put, List.getElem_toArray, List.getElem_cons_zero, List.getElem_cons_succ, List.setIfInBounds_toArray, List.set_cons_zero, List.set_cons_succ]
    refine wpAnyH_take (i := 1) (v := ?_) rfl (by kernel_rfl) (by kernel_rfl) (by kernel_rfl) (fun _ _ _ h => h) (Or.inl ⟨by rfl, ?_⟩) (by assumption) ?_
    rotate_left
    · first | (intro w hSw; (try dsimp only at hSw); go_simp; done) | (intro w hSw; (try dsimp only at hSw); go_simp; with_reducible rfl)
    try simp only [Act.put, List.getElem_toArray, List.getElem_cons_zero, List.getElem_cons_succ, List.setIfInBounds_toArray, List.set_cons_zero, List.set_cons_succ]
    refine wpAnyH_take (i := 2) (v := ?_) rfl (by kernel_rfl) (by kernel_rfl) (by kernel_rfl) (fun _ _ _ h => h) (Or.inl ⟨by rfl, ?_⟩) (by assumption) ?_
    rotate_left
    · first | (intro w hSw; (try dsimp only at hSw); go_simp; done) | (intro w hSw; (try dsimp only at hSw); go_simp; with_reducible rfl)
    try simp only [Act.put, List.getElem_toArray, List.getElem_cons_zero, List.getElem_cons_succ, List.setIfInBounds_toArray, List.set_cons_zero, List.set_cons_succ]
    refine wpAnyH_take (i := 3) (v := ?_) rfl (by kernel_rfl) (by kernel_rfl) (by kernel_rfl) (fun _ _ _ h => h) (Or.inl ⟨by rfl, ?_⟩) (by assumption) ?_
    rotate_left
    · first | (intro w hSw; (try dsimp only at hSw); go_simp; done) | (intro w hSw; (try dsimp only at hSw); go_simp; with_reducible rfl)
    try simp only [Act.put, List.getElem_toArray, List.getElem_cons_zero, List.getElem_cons_succ, List.setIfInBounds_toArray, List.set_cons_zero, List.set_cons_succ]
    refine wpAnyH_take (i := 5) (v := ?_) rfl (by kernel_rfl) (by kernel_rfl) (by kernel_rfl) (fun _ _ _ h => h) (Or.inl ⟨by rfl, ?_⟩) (by assumption) ?_
    rotate_left
    · first | (intro w hSw; (try dsimp only at hSw); go_simp; done) | (intro w hSw; (try dsimp only at hSw); go_simp; with_reducible rfl)
    try simp only [Act.put, List.getElem_toArray, List.getElem_cons_zero, List.getElem_cons_succ, List.setIfInBounds_toArray, List.set_cons_zero, List.set_cons_succ]
    refine wpAnyH_take (i := 6) (v := ?_) rfl (by kernel_rfl) (by kernel_rfl) (by kernel_rfl) (fun _ _ _ h => h) (Or.inl ⟨by rfl, ?_⟩) (by assumption) ?_
    rotate_left
    · first | (intro w hSw; (try dsimp only at hSw); go_simp; done) | (intro w hSw; (try dsimp only at hSw); go_simp; with_reducible rfl)
    try simp only [Act.put, List.getElem_toArray, List.getElem_cons_zero, List.getElem_cons_succ, List.setIfInBounds_toArray, List.set_cons_zero, List.set_cons_succ]
    refine wpAnyH_take (i := 8) (v := ?_) rfl (by kernel_rfl) (by kernel_rfl) (by kernel_rfl) (fun _ _ _ h => h) (Or.inl ⟨by rfl, ?_⟩) (by assumption) ?_
    rotate_left
    · first | (intro w hSw; (try dsimp only at hSw); go_simp; done) | (intro w hSw; (try dsimp only at hSw); go_simp; with_reducible rfl)
    try simp only [Act.put, List.getElem_toArray, List.getElem_cons_zero, List.getElem_cons_succ, List.setIfInBounds_toArray, List.set_cons_zero, List.set_cons_succ]
    refine wpAnyH_take (i := 9) (v := ?_) rfl (by kernel_rfl) (by kernel_rfl) (by kernel_rfl) (fun _ _ _ h => h) (Or.inl ⟨by rfl, ?_⟩) (by assumption) ?_
    rotate_left
    · first | (intro w hSw; (try dsimp only at hSw); go_simp; done) | (intro w hSw; (try dsimp only at hSw); go_simp; with_reducible rfl)
    try simp only [Act.put, List.getElem_toArray, List.getElem_cons_zero, List.getElem_cons_succ, List.setIfInBounds_toArray, List.set_cons_zero, List.set_cons_succ]
    refine wpAnyH_take (i := 10) (v := ?_) rfl (by kernel_rfl) (by kernel_rfl) (by kernel_rfl) (fun _ _ _ h => h) (Or.inl ⟨by rfl, ?_⟩) (by assumption) ?_
    rotate_left
    · first | (intro w hSw; (try dsimp only at hSw); go_simp; done) | (intro w hSw; (try dsimp only at hSw); go_simp; with_reducible rfl)
    try simp only [Act.put, List.getElem_toArray, List.getElem_cons_zero, List.getElem_cons_succ, List.setIfInBounds_toArray, List.set_cons_zero, List.set_cons_succ]
    refine wpAnyH_ready (rs := [4]) (by kernel_rfl) (by simp) ?_
    refine AllReadyH.cons rfl (fun K hK => ?_) AllReadyH.nil
    go_simp
    go_at_call 11; refine (HT.out _).mono ?_; rintro e w1 ⟨rfl, hb1⟩; have j0 : w1.cell? ⟨w.heap.size, 0, none⟩ = some (.int .i64 num) := (hb1.cell kz).trans k0; have j2 : w1.cell? ⟨w.heap.size, 2, none⟩ = some (.int .u64 u) := (hb1.cell kz).trans k2; have j3 : w1.cell? ⟨w.heap.size, 3, none⟩ = some (.string b) := (hb1.cell kz).trans k3; have J1 := Lib.hid (Below.trans (below_drewN kb 1) (hb1.mono (Nat.le_of_lt kz))); clear hb1; dsimp only
    refine hK.out _ _ (⟨j0, j2, j3⟩) (fun hHeld => ?_)
    clear hK K
    try simp only [Act.put, List.getElem_toArray, List.getElem_cons_zero, List.getElem_cons_succ, List.setIfInBounds_toArray, List.set_cons_zero, List.set_cons_succ]
    refine wpAnyH_take (i := 7) (v := ?_) rfl (by kernel_rfl) (by kernel_rfl) (by kernel_rfl) (fun _ _ _ h => h) (Or.inl ⟨by rfl, ?_⟩) (by assumption) ?_
    rotate_left
    · first | (intro w hSw; (try dsimp only at hSw); go_simp; done) | (intro w hSw; (try dsimp only at hSw); go_simp; with_reducible rfl)
    try simp only [Act.put, List.getElem_toArray, List.getElem_cons_zero, List.getElem_cons_succ, List.setIfInBounds_toArray, List.set_cons_zero, List.set_cons_succ]
    refine wpAnyH_take (i := 11) (v := ?_) rfl (by kernel_rfl) (by kernel_rfl) (by kernel_rfl) (fun _ _ _ h => h) (Or.inl ⟨by rfl, ?_⟩) (by assumption) ?_
    rotate_left
    · first | (intro w hSw; (try dsimp only at hSw); go_simp; done) | (intro w hSw; (try dsimp only at hSw); go_simp; with_reducible rfl)
    try simp only [Act.put, List.getElem_toArray, List.getElem_cons_zero, List.getElem_cons_succ, List.setIfInBounds_toArray, List.set_cons_zero, List.set_cons_succ]
    refine wpAnyH_take (i := 12) (v := ?_) rfl (by kernel_rfl) (by kernel_rfl) (by kernel_rfl) (fun _ _ _ h => h) (Or.inl ⟨by rfl, ?_⟩) (by assumption) ?_
    rotate_left
    · first | (intro w hSw; (try dsimp only at hSw); go_simp; done) | (intro w hSw; (try dsimp only at hSw); go_simp; with_reducible rfl)
    try simp only [Act.put, List.getElem_toArray, List.getElem_cons_zero, List.getElem_cons_succ, List.setIfInBounds_toArray, List.set_cons_zero, List.set_cons_succ]
    refine wpAnyH_take (i := 13) (v := ?_) rfl (by kernel_rfl) (by kernel_rfl) (by kernel_rfl) (fun _ _ _ h => h) (Or.inl ⟨by rfl, ?_⟩) (by assumption) ?_
    rotate_left
    · first | (intro w hSw; (try dsimp only at hSw); go_simp; done) | (intro w hSw; (try dsimp only at hSw); go_simp; with_reducible rfl)
    try simp only [Act.put, List.getElem_toArray, List.getElem_cons_zero, List.getElem_cons_succ, List.setIfInBounds_toArray, List.set_cons_zero, List.set_cons_succ]
    refine wpAnyH_take (i := 14) (v := ?_) rfl (by kernel_rfl) (by kernel_rfl) (by kernel_rfl) (fun _ _ _ h => h) (Or.inl ⟨by rfl, ?_⟩) (by assumption) ?_
    rotate_left
    · first | (intro w hSw; (try dsimp only at hSw); go_simp; done) | (intro w hSw; (try dsimp only at hSw); go_simp; with_reducible rfl)
    try simp only [Act.put, List.getElem_toArray, List.getElem_cons_zero, List.getElem_cons_succ, List.setIfInBounds_toArray, List.set_cons_zero, List.set_cons_succ]
    refine wpAnyH_take (i := 15) (v := ?_) rfl (by kernel_rfl) (by kernel_rfl) (by kernel_rfl) (fun _ _ _ h => h) (Or.inl ⟨by rfl, ?_⟩) (by assumption) ?_
    rotate_left
    · first | (intro w hSw; (try dsimp only at hSw); go_simp; done) | (intro w hSw; (try dsimp only at hSw); go_simp; with_reducible rfl)
    try simp only [Act.put, List.getElem_toArray, List.getElem_cons_zero, List.getElem_cons_succ, List.setIfInBounds_toArray, List.set_cons_zero, List.set_cons_succ]
    refine wpAnyH_take (i := 16) (v := ?_) rfl (by kernel_rfl) (by kernel_rfl) (by kernel_rfl) (fun _ _ _ h => h) (Or.inl ⟨by rfl, ?_⟩) (by assumption) ?_
    rotate_left
    · first | (intro w hSw; (try dsimp only at hSw); go_simp; done) | (intro w hSw; (try dsimp only at hSw); go_simp; with_reducible rfl)
    try simp only [Act.put, List.getElem_toArray, List.getElem_cons_zero, List.getElem_cons_succ, List.setIfInBounds_toArray, List.set_cons_zero, List.set_cons_succ]
    refine wpAnyH_take (i := 17) (v := undef) rfl (by kernel_rfl) (by kernel_rfl) (by kernel_rfl) (fun _ _ _ h => h) (Or.inr ⟨by rfl, rfl⟩) (by assumption) ?_
    try simp only [Act.put, List.getElem_toArray, List.getElem_cons_zero, List.getElem_cons_succ, List.setIfInBounds_toArray, List.set_cons_zero, List.set_cons_succ]
    refine wpAnyH_take (i := 18) (v := undef) rfl (by kernel_rfl) (by kernel_rfl) (by kernel_rfl) (fun _ _ _ h => h) (Or.inr ⟨by rfl, rfl⟩) (by assumption) ?_
    try simp only [Act.put, List.getElem_toArray, List.getElem_cons_zero, List.getElem_cons_succ, List.setIfInBounds_toArray, List.set_cons_zero, List.set_cons_succ]
    refine wpAnyH_take (i := 19) (v := undef) rfl (by kernel_rfl) (by kernel_rfl) (by kernel_rfl) (fun _ _ _ h => h) (Or.inr ⟨by rfl, rfl⟩) (by assumption) ?_
    try simp only [Act.put, List.getElem_toArray, List.getElem_cons_zero, List.getElem_cons_succ, List.setIfInBounds_toArray, List.set_cons_zero, List.set_cons_succ]
    refine wpAnyH_take (i := 20) (v := ?_) rfl (by kernel_rfl) (by kernel_rfl) (by kernel_rfl) (fun _ _ _ h => h) (Or.inl ⟨by rfl, ?_⟩) (by assumption) ?_
    rotate_left
    · first | (intro w hSw; (try dsimp only at hSw); go_simp; done) | (intro w hSw; (try dsimp only at hSw); go_simp; with_reducible rfl)
    try simp only [Act.put, List.getElem_toArray, List.getElem_cons_zero, List.getElem_cons_succ, List.setIfInBounds_toArray, List.set_cons_zero, List.set_cons_succ]
    refine wpAnyH_take (i := 21) (v := ?_) rfl (by kernel_rfl) (by kernel_rfl) (by kernel_rfl) (fun _ _ _ h => h) (Or.inl ⟨by rfl, ?_⟩) (by assumption) ?_
    rotate_left
    · first | (intro w hSw; (try dsimp only at hSw); go_simp; done) | (intro w hSw; (try dsimp only at hSw); go_simp; with_reducible rfl)
    try simp only [Act.put, List.getElem_toArray, List.getElem_cons_zero, List.getElem_cons_succ, List.setIfInBounds_toArray, List.set_cons_zero, List.set_cons_succ]
    refine wpAnyH_take (i := 22) (v := ?_) rfl (by kernel_rfl) (by kernel_rfl) (by kernel_rfl) (fun _ _ _ h => h) (Or.inl ⟨by rfl, ?_⟩) (by assumption) ?_
    rotate_left
    · first | (intro w hSw; (try dsimp only at hSw); go_simp; done) | (intro w hSw; (try dsimp only at hSw); go_simp; with_reducible rfl)
    try simp only [Act.put, List.getElem_toArray, List.getElem_cons_zero, List.getElem_cons_succ, List.setIfInBounds_toArray, List.set_cons_zero, List.set_cons_succ]
    refine wpAnyH_done (by kernel_rfl) ?_ _
    all_goals
      go_wp2
      go_ret2
      exact cont_ret J1.out (fun h => by cases h) (fun _ h => by have := h.2.1; dsimp only at this; omega)
  by_cases hu : u = 0
  · subst hu
    go_enter Try.func29, Try.ntmps29
    go_wp2_with fail
    have d1 : decide (1 ≤ num) = true := by simp; omega
    have q1 : 1 ≤ num := by omega
    have d2 : decide (num ≤ 536870911) = true := by simp; omega
    have q2 : num ≤ 536870911 := by omega
    have k0 : (w.alloc (.cells #[.int .i64 num, .int .i64 2, .int .u64 0, .string b] 35)).cell? ⟨w.heap.size, 0, none⟩ = some (.int .i64 num) := cell_of_row _ _ 0 _ 35 (0, 0) (heap_alloc_new w _)
    have k2 : (w.alloc (.cells #[.int .i64 num, .int .i64 2, .int .u64 0, .string b] 35)).cell? ⟨w.heap.size, 2, none⟩ = some (.int .u64 0) := cell_of_row _ _ 2 _ 35 (0, 0) (heap_alloc_new w _)
    have k3 : (w.alloc (.cells #[.int .i64 num, .int .i64 2, .int .u64 0, .string b] 35)).cell? ⟨w.heap.size, 3, none⟩ = some (.string b) := cell_of_row _ _ 3 _ 35 (0, 0) (heap_alloc_new w _)
    have kb : Below w.heap.size w (w.alloc (.cells #[.int .i64 num, .int .i64 2, .int .u64 0, .string b] 35)) := (Below.refl _ _).alloc (Nat.le_refl _) _
    have kz : w.heap.size < (w.alloc (.cells #[.int .i64 num, .int .i64 2, .int .u64 0, .string b] 35)).heap.size := by simp
    generalize w.alloc (.cells #[.int .i64 num, .int .i64 2, .int .u64 0, .string b] 35) = W0 at k0 k2 k3 kb kz ⊢
    go_region_held3 (fun W => W.cell? ⟨w.heap.size, 0, none⟩ = some (.int .i64 num) ∧ W.cell? ⟨w.heap.size, 2, none⟩ = some (.int .u64 0) ∧ W.cell? ⟨w.heap.size, 3, none⟩ = some (.string b)) (first | exact ⟨k0, k2, k3⟩ | exact ⟨j0, j2, j3⟩ | exact ⟨by assumption, by assumption, by assumption⟩ | go_keep)
      (first | (go_at_call 11; refine (HT.out _).mono ?_; rintro e w1 ⟨rfl, hb1⟩; have j0 : w1.cell? ⟨w.heap.size, 0, none⟩ = some (.int .i64 num) := (hb1.cell kz).trans k0; have j2 : w1.cell? ⟨w.heap.size, 2, none⟩ = some (.int .u64 0) := (hb1.cell kz).trans k2; have j3 : w1.cell? ⟨w.heap.size, 3, none⟩ = some (.string b) := (hb1.cell kz).trans k3; have J1 := Lib.hid (Below.trans (below_drewN kb 1) (hb1.mono (Nat.le_of_lt kz))); clear hb1))
    all_goals
      go_wp2
      go_ret2
      exact cont_ret J1.out (fun _ => ⟨⟨by dsimp only; omega, by dsimp only; omega, .inr (.inr (.inr ⟨rfl, rfl⟩))⟩, rfl⟩) (fun h => by cases h)
  · have du : (u == 0) = false := by simpa using hu
    have Hu := Lib.hid hu
    clear hu
    go_enter Try.func29, Try.ntmps29
    go_wp2_with fail
    have d1 : decide (1 ≤ num) = true := by simp; omega
    have q1 : 1 ≤ num := by omega
    have d2 : decide (num ≤ 536870911) = true := by simp; omega
    have q2 : num ≤ 536870911 := by omega
    have k0 : (w.alloc (.cells #[.int .i64 num, .int .i64 2, .int .u64 u, .string b] 35)).cell? ⟨w.heap.size, 0, none⟩ = some (.int .i64 num) := cell_of_row _ _ 0 _ 35 (0, 0) (heap_alloc_new w _)
    have k2 : (w.alloc (.cells #[.int .i64 num, .int .i64 2, .int .u64 u, .string b] 35)).cell? ⟨w.heap.size, 2, none⟩ = some (.int .u64 u) := cell_of_row _ _ 2 _ 35 (0, 0) (heap_alloc_new w _)
    have k3 : (w.alloc (.cells #[.int .i64 num, .int .i64 2, .int .u64 u, .string b] 35)).cell? ⟨w.heap.size, 3, none⟩ = some (.string b) := cell_of_row _ _ 3 _ 35 (0, 0) (heap_alloc_new w _)
    have kb : Below w.heap.size w (w.alloc (.cells #[.int .i64 num, .int .i64 2, .int .u64 u, .string b] 35)) := (Below.refl _ _).alloc (Nat.le_refl _) _
    have kz : w.heap.size < (w.alloc (.cells #[.int .i64 num, .int .i64 2, .int .u64 u, .string b] 35)).heap.size := by simp
    generalize w.alloc (.cells #[.int .i64 num, .int .i64 2, .int .u64 u, .string b] 35) = W0 at k0 k2 k3 kb kz ⊢
    go_region_held3 (fun W => W.cell? ⟨w.heap.size, 0, none⟩ = some (.int .i64 num) ∧ W.cell? ⟨w.heap.size, 2, none⟩ = some (.int .u64 u) ∧ W.cell? ⟨w.heap.size, 3, none⟩ = some (.string b)) (first | exact ⟨k0, k2, k3⟩ | exact ⟨j0, j2, j3⟩ | exact ⟨by assumption, by assumption, by assumption⟩ | go_keep)
      (first | (go_at_call 11; refine (HT.out _).mono ?_; rintro e w1 ⟨rfl, hb1⟩; have j0 : w1.cell? ⟨w.heap.size, 0, none⟩ = some (.int .i64 num) := (hb1.cell kz).trans k0; have j2 : w1.cell? ⟨w.heap.size, 2, none⟩ = some (.int .u64 u) := (hb1.cell kz).trans k2; have j3 : w1.cell? ⟨w.heap.size, 3, none⟩ = some (.string b) := (hb1.cell kz).trans k3; have J1 := Lib.hid (Below.trans (below_drewN kb 1) (hb1.mono (Nat.le_of_lt kz))); clear hb1))
    all_goals
      go_wp2
      go_ret2
      exact cont_ret J1.out (fun h => by cases h) (fun _ h => by rcases h.2.2 with ⟨h, h2⟩ | ⟨h, h2⟩ | ⟨h, h2, _⟩ | ⟨_, h⟩ <;> first | exact Hu.out h | (dsimp only at h; omega))
end Go.Proofs.Ytpnieegaemfffaa
