/- The walks: what stands behind a field's head, the rest. The walks: what stands behind a field's head, of a text. The walks: what stands behind a field's head, every kind; and the reference's form of a field. The walks: the reference's form of a field. The walks: Write. -/
import Derived.Test.YtkcnpnnflbibiaaZg
import Derived.Deep.RegionLaw
import Derived.BigRegion
set_option linter.unusedVariables false
/- The walks: what stands behind a field's head, the rest. -/
namespace Go.Proofs.Ytkcnpnnflbibiaa
open Go.RowKit

set_option maxRecDepth 100000 in
set_option maxHeartbeats 1600000 in
theorem content_5 (num u : Int) (b : ByteArray) (w : World) (h : FdOk ⟨num, 5, u, b⟩) : Calls Try.prog 82 #[(Fd.mk num 5 u b).val] w (ContIs ⟨num, 5, u, b⟩ w) := by
  have h0 := h.u0
  have H1 := Lib.hid h.u1
  dsimp only at h0
  clear h
  unfold Fd.val
  have T : ∀ w, Calls Try.prog 92 #[.int .u64 u, .int .i64 4] w fun e w' => e = .returned (.string (strOfNums (leS 4 u))) ∧ Below w.heap.size w w' := fun w => fixed_w u 4 (by omega) w h0 H1.out
  have HT := Lib.hid T
  clear T
  rcases num_cases num b with hn | hn | ⟨hn1, hn2, hb⟩ | ⟨hn1, hn2, rfl⟩
  · go_enter Try.func82, Try.ntmps82
    go_wp2_with fail
    have k0 : (w.alloc (.cells #[.int .i64 num, .int .i64 5, .int .u64 u, .string b] 24)).cell? ⟨w.heap.size, 2, none⟩ = some (.int .u64 u) := cell_of_row _ _ 2 _ 24 (0, 0) (heap_alloc_new w _)
    have k1 : Below w.heap.size w (w.alloc (.cells #[.int .i64 num, .int .i64 5, .int .u64 u, .string b] 24)) := (Below.refl _ _).alloc (Nat.le_refl _) _
    have k2 : w.heap.size < (w.alloc (.cells #[.int .i64 num, .int .i64 5, .int .u64 u, .string b] 24)).heap.size := by simp
    generalize w.alloc (.cells #[.int .i64 num, .int .i64 5, .int .u64 u, .string b] 24) = W0 at k0 k1 k2 ⊢
    first | (go_region_law (first
      | (go_simp; go_at_call 92; refine (HT.out _).mono ?_; rintro e w1 ⟨rfl, hb1⟩; have j0 : w1.cell? ⟨w.heap.size, 2, none⟩ = some (.int .u64 u) := (hb1.cell k2).trans k0; have J1 := Lib.hid (Below.trans (below_drewN k1 1) (hb1.mono (Nat.le_of_lt k2))); clear hb1; dsimp only))) | fail
    all_goals
      go_wp2
      go_ret2
      exact cont_ret J1.out (fun h => by cases h) (fun _ h => by have := h.1; dsimp only at this; omega)

  · go_enter Try.func82, Try.ntmps82
    go_wp2_with fail
    have k0 : (w.alloc (.cells #[.int .i64 num, .int .i64 5, .int .u64 u, .string b] 24)).cell? ⟨w.heap.size, 2, none⟩ = some (.int .u64 u) := cell_of_row _ _ 2 _ 24 (0, 0) (heap_alloc_new w _)
    have k1 : Below w.heap.size w (w.alloc (.cells #[.int .i64 num, .int .i64 5, .int .u64 u, .string b] 24)) := (Below.refl _ _).alloc (Nat.le_refl _) _
    have k2 : w.heap.size < (w.alloc (.cells #[.int .i64 num, .int .i64 5, .int .u64 u, .string b] 24)).heap.size := by simp
    generalize w.alloc (.cells #[.int .i64 num, .int .i64 5, .int .u64 u, .string b] 24) = W0 at k0 k1 k2 ⊢
    first | (go_region_law (first
      | (go_simp; go_at_call 92; refine (HT.out _).mono ?_; rintro e w1 ⟨rfl, hb1⟩; have j0 : w1.cell? ⟨w.heap.size, 2, none⟩ = some (.int .u64 u) := (hb1.cell k2).trans k0; have J1 := Lib.hid (Below.trans (below_drewN k1 1) (hb1.mono (Nat.le_of_lt k2))); clear hb1; dsimp only))) | fail
    all_goals
      go_wp2
      go_ret2
      exact cont_ret J1.out (fun h => by cases h) (fun _ h => by have := h.2.1; dsimp only at this; omega)

  · have he := empty_ne hb
    have Hb := Lib.hid hb
    clear hb
    go_enter Try.func82, Try.ntmps82
    go_wp2_with fail
    have k0 : (w.alloc (.cells #[.int .i64 num, .int .i64 5, .int .u64 u, .string b] 24)).cell? ⟨w.heap.size, 2, none⟩ = some (.int .u64 u) := cell_of_row _ _ 2 _ 24 (0, 0) (heap_alloc_new w _)
    have k1 : Below w.heap.size w (w.alloc (.cells #[.int .i64 num, .int .i64 5, .int .u64 u, .string b] 24)) := (Below.refl _ _).alloc (Nat.le_refl _) _
    have k2 : w.heap.size < (w.alloc (.cells #[.int .i64 num, .int .i64 5, .int .u64 u, .string b] 24)).heap.size := by simp
    generalize w.alloc (.cells #[.int .i64 num, .int .i64 5, .int .u64 u, .string b] 24) = W0 at k0 k1 k2 ⊢
    first | (go_region_law (first
      | (go_simp; go_at_call 92; refine (HT.out _).mono ?_; rintro e w1 ⟨rfl, hb1⟩; have j0 : w1.cell? ⟨w.heap.size, 2, none⟩ = some (.int .u64 u) := (hb1.cell k2).trans k0; have J1 := Lib.hid (Below.trans (below_drewN k1 1) (hb1.mono (Nat.le_of_lt k2))); clear hb1; dsimp only))) | fail
    all_goals
      go_wp2
      go_ret2
      exact cont_ret J1.out (fun h => by cases h) (fun _ h => by rcases h.2.2 with ⟨h, h2⟩ | ⟨h, h2⟩ | ⟨h, h2, _⟩ | ⟨h, _⟩ <;> first | exact Hb.out h2 | (dsimp only at h; omega))

  · go_enter Try.func82, Try.ntmps82
    go_wp2_with fail
    have k0 : (w.alloc (.cells #[.int .i64 num, .int .i64 5, .int .u64 u, .string ⟨#[]⟩] 24)).cell? ⟨w.heap.size, 2, none⟩ = some (.int .u64 u) := cell_of_row _ _ 2 _ 24 (0, 0) (heap_alloc_new w _)
    have k1 : Below w.heap.size w (w.alloc (.cells #[.int .i64 num, .int .i64 5, .int .u64 u, .string ⟨#[]⟩] 24)) := (Below.refl _ _).alloc (Nat.le_refl _) _
    have k2 : w.heap.size < (w.alloc (.cells #[.int .i64 num, .int .i64 5, .int .u64 u, .string ⟨#[]⟩] 24)).heap.size := by simp
    generalize w.alloc (.cells #[.int .i64 num, .int .i64 5, .int .u64 u, .string ⟨#[]⟩] 24) = W0 at k0 k1 k2 ⊢
    first | (go_region_law (first
      | (go_simp; go_at_call 92; refine (HT.out _).mono ?_; rintro e w1 ⟨rfl, hb1⟩; have j0 : w1.cell? ⟨w.heap.size, 2, none⟩ = some (.int .u64 u) := (hb1.cell k2).trans k0; have J1 := Lib.hid (Below.trans (below_drewN k1 1) (hb1.mono (Nat.le_of_lt k2))); clear hb1; dsimp only))) | fail
    all_goals
      go_wp2
      go_ret2
      refine cont_ret J1.out (fun h => ?_) (fun h => ?_)
      · have h2 : u / 4294967296 = 0 := by simpa using h
        exact ⟨⟨hn1, hn2, .inr (.inr (.inl ⟨rfl, rfl, by dsimp only; omega⟩))⟩, rfl⟩
      · intro hg
        have h2 : ¬ u / 4294967296 = 0 := by simpa using h
        rcases hg.2.2 with ⟨h1, _⟩ | ⟨h1, _⟩ | ⟨_, _, h1⟩ | ⟨h1, _⟩ <;> (dsimp only at h1; omega)

end Go.Proofs.Ytkcnpnnflbibiaa

/- The walks: what stands behind a field's head, of a text. -/
namespace Go.Proofs.Ytkcnpnnflbibiaa
open Go.RowKit

set_option maxRecDepth 100000 in
set_option maxHeartbeats 1600000 in
theorem content_2 (num u : Int) (b : ByteArray) (w : World) (h : FdOk ⟨num, 2, u, b⟩) : Calls Try.prog 82 #[(Fd.mk num 2 u b).val] w (ContIs ⟨num, 2, u, b⟩ w) := by
  have h0 := h.u0
  have H1 := Lib.hid h.u1
  have hz : b.size ≤ 140737488351232 := h.b
  dsimp only at h0
  clear h
  unfold Fd.val
  have T : ∀ w, Calls Try.prog 65 #[.int .u64 (IntKind.u64.wrap (b.size : Int))] w fun e w' => e = .returned (.string (strOfNums (venc b.size))) ∧ Below w.heap.size w w' := fun w => by
    rw [IntWalk.u64_in _ ⟨by omega, by omega⟩]
    exact varint_w (b.size : Int) w (by omega) (by unfold B64; omega)
  have hq : ¬ 9223372036854775807 < (strOfNums (venc (b.size : Int))).size + b.size := by
    rw [strOfNums_size]
    have := (vencF_len 9 (b.size : Int)).2
    unfold venc; omega
  have HT := Lib.hid T
  clear T
  by_cases hn : num < 1
  · go_enter Try.func82, Try.ntmps82
    go_wp2_with fail
    have d1 : decide (1 ≤ num) = false := by simp; omega
    have q1 : ¬ 1 ≤ num := by omega
    have k0 : (w.alloc (.cells #[.int .i64 num, .int .i64 2, .int .u64 u, .string b] 24)).cell? ⟨w.heap.size, 0, none⟩ = some (.int .i64 num) := cell_of_row _ _ 0 _ 24 (0, 0) (heap_alloc_new w _)
    have k2 : (w.alloc (.cells #[.int .i64 num, .int .i64 2, .int .u64 u, .string b] 24)).cell? ⟨w.heap.size, 2, none⟩ = some (.int .u64 u) := cell_of_row _ _ 2 _ 24 (0, 0) (heap_alloc_new w _)
    have k3 : (w.alloc (.cells #[.int .i64 num, .int .i64 2, .int .u64 u, .string b] 24)).cell? ⟨w.heap.size, 3, none⟩ = some (.string b) := cell_of_row _ _ 3 _ 24 (0, 0) (heap_alloc_new w _)
    have kb : Below w.heap.size w (w.alloc (.cells #[.int .i64 num, .int .i64 2, .int .u64 u, .string b] 24)) := (Below.refl _ _).alloc (Nat.le_refl _) _
    have kz : w.heap.size < (w.alloc (.cells #[.int .i64 num, .int .i64 2, .int .u64 u, .string b] 24)).heap.size := by simp
    generalize w.alloc (.cells #[.int .i64 num, .int .i64 2, .int .u64 u, .string b] 24) = W0 at k0 k2 k3 kb kz ⊢
    refine wp_region_held_drew (S := fun W => W.cell? ⟨w.heap.size, 0, none⟩ = some (.int .i64 num) ∧ W.cell? ⟨w.heap.size, 2, none⟩ = some (.int .u64 u) ∧ W.cell? ⟨w.heap.size, 3, none⟩ = some (.string b)) (by kernel_rfl) ⟨k0, k2, k3⟩ (fun hHeld => ?_)
    refine wpAnyH_take (i := 0) (v := ?_) rfl (by kernel_rfl) (by kernel_rfl) (by kernel_rfl) (fun _ _ _ h => h) (Or.inl ⟨by rfl, ?_⟩) (by assumption) ?_
    rotate_left
    · first | (intro w hSw; (try dsimp only at hSw); go_simp; done) | (intro w hSw; (try dsimp only at hSw); go_simp; with_reducible rfl)
    try simp only [Act.put, List.getElem_toArray, List.getElem_cons_zero, List.setIfInBounds_toArray, List.set_cons_zero, List.set_cons_succ]
    refine wpAnyH_take (i := 1) (v := ?_) rfl (by kernel_rfl) (by kernel_rfl) (by kernel_rfl) (fun _ _ _ h => h) (Or.inl ⟨by rfl, ?_⟩) (by assumption) ?_
    rotate_left
    · first | (intro w hSw; (try dsimp only at hSw); go_simp; done) | (intro w hSw; (try dsimp only at hSw); go_simp; with_reducible rfl)
    try simp only [Act.put, List.getElem_toArray, List.getElem_cons_zero, List.getElem_cons_succ, List.setIfInBounds_toArray, List.set_cons_zero, List.set_cons_succ]
    refine wpAnyH_take (i := 2) (v := ?_) rfl (by kernel_rfl) (by kernel_rfl) (by kernel_rfl) (fun _ _ _ h => h) (Or.inl ⟨by rfl, ?_⟩) (by assumption) ?_
    rotate_left
    · first | (intro w hSw; (try dsimp only at hSw); go_simp; done) | (intro w hSw; (try dsimp only at hSw); go_simp; with_reducible rfl)
    try simp only [Act.put, List.getElem_toArray, List.getElem_cons_zero, List.getElem_cons_succ, List.setIfInBounds_toArray, List.set_cons_zero, List.set_cons_succ]
    refine wpAnyH_take (i := 3) (v := ?_) rfl (by kernel_rfl) (by kernel_rfl) (by kernel_rfl) (fun _ _ _ h => h) (Or.inl ⟨by rfl, ?_⟩) (by assumption) ?_
    rotate_left
    · first | (intro w hSw; (try dsimp only at hSw); go_simp; done) | (intro w hSw; (try dsimp only at hSw); go_simp; with_reducible rfl)
    try simp only [Act.put, List.getElem_toArray, List.getElem_cons_zero, List.getElem_cons_succ, List.setIfInBounds_toArray, List.set_cons_zero, List.set_cons_succ]
    refine wpAnyH_take (i := 5) (v := ?_) rfl (by kernel_rfl) (by kernel_rfl) (by kernel_rfl) (fun _ _ _ h => h) (Or.inl ⟨by rfl, ?_⟩) (by assumption) ?_
    rotate_left
    · first | (intro w hSw; (try dsimp only at hSw); go_simp; done) | (intro w hSw; (try dsimp only at hSw); go_simp; with_reducible rfl)
    try simp only [Act.put, List.getElem_toArray, List.getElem_cons_zero, List.getElem_cons_succ, List.setIfInBounds_toArray, List.set_cons_zero, List.set_cons_succ]
    refine wpAnyH_take (i := 6) (v := ?_) rfl (by kernel_rfl) (by kernel_rfl) (by kernel_rfl) (fun _ _ _ h => h) (Or.inl ⟨by rfl, ?_⟩) (by assumption) ?_
    rotate_left
    · first | (intro w hSw; (try dsimp only at hSw); go_simp; done) | (intro w hSw; (try dsimp only at hSw); go_simp; with_reducible rfl)
    try simp only [Act.put, List.getElem_toArray, List.getElem_cons_zero, List.getElem_cons_succ, List.setIfInBounds_toArray, List.set_cons_zero, List.set_cons_succ]
    refine wpAnyH_take (i := 8) (v := ?_) rfl (by kernel_rfl) (by kernel_rfl) (by kernel_rfl) (fun _ _ _ h => h) (Or.inl ⟨by rfl, ?_⟩) (by assumption) ?_
    rotate_left
    · first | (intro w hSw; (try dsimp only at hSw); go_simp; done) | (intro w hSw; (try dsimp only at hSw); go_simp; with_reducible rfl)
    try simp only [Act.put, List.getElem_toArray, List.getElem_cons_zero, List.getElem_cons_succ, List.setIfInBounds_toArray, List.set_cons_zero, List.set_cons_succ]
    refine wpAnyH_take (i := 9) (v := ?_) rfl (by kernel_rfl) (by kernel_rfl) (by kernel_rfl) (fun _ _ _ h => h) (Or.inl ⟨by rfl, ?_⟩) (by assumption) ?_
    rotate_left
    · first | (intro w hSw; (try dsimp only at hSw); go_simp; done) | (intro w hSw; (try dsimp only at hSw); go_simp; with_reducible rfl)
    try simp only [Act.put, List.getElem_toArray, List.getElem_cons_zero, List.getElem_cons_succ, List.setIfInBounds_toArray, List.set_cons_zero, List.set_cons_succ]
    refine wpAnyH_take (i := 10) (v := ?_) rfl (by kernel_rfl) (by kernel_rfl) (by kernel_rfl) (fun _ _ _ h => h) (Or.inl ⟨by rfl, ?_⟩) (by assumption) ?_
    rotate_left
    · first | (intro w hSw; (try dsimp only at hSw); go_simp; done) | (intro w hSw; (try dsimp only at hSw); go_simp; with_reducible rfl)
    try simp only [Act.put, List.getElem_toArray, List.getElem_cons_zero, List.getElem_cons_succ, List.setIfInBounds_toArray, List.set_cons_zero, List.set_cons_succ]
    refine wpAnyH_ready (rs := [4]) (by kernel_rfl) (by simp) ?_
    refine AllReadyH.cons rfl (fun K hK => ?_) AllReadyH.nil
    go_simp
    go_at_call 65; refine (HT.out _).mono ?_; rintro e w1 ⟨rfl, hb1⟩; have j0 : w1.cell? ⟨w.heap.size, 0, none⟩ = some (.int .i64 num) := (hb1.cell kz).trans k0; have j2 : w1.cell? ⟨w.heap.size, 2, none⟩ = some (.int .u64 u) := (hb1.cell kz).trans k2; have j3 : w1.cell? ⟨w.heap.size, 3, none⟩ = some (.string b) := (hb1.cell kz).trans k3; have J1 := Lib.hid (Below.trans (below_drewN kb 1) (hb1.mono (Nat.le_of_lt kz))); clear hb1; dsimp only
    refine hK.out _ _ (⟨j0, j2, j3⟩) (fun hHeld => ?_)
    clear hK K
    try simp only [Act.put, List.getElem_toArray, List.getElem_cons_zero, List.getElem_cons_succ, List.setIfInBounds_toArray, List.set_cons_zero, List.set_cons_succ]
    refine wpAnyH_take (i := 7) (v := ?_) rfl (by kernel_rfl) (by kernel_rfl) (by kernel_rfl) (fun _ _ _ h => h) (Or.inl ⟨by rfl, ?_⟩) (by assumption) ?_
    rotate_left
    · first | (intro w hSw; (try dsimp only at hSw); go_simp; done) | (intro w hSw; (try dsimp only at hSw); go_simp; with_reducible rfl)
    try simp only [Act.put, List.getElem_toArray, List.getElem_cons_zero, List.getElem_cons_succ, List.setIfInBounds_toArray, List.set_cons_zero, List.set_cons_succ]
    refine wpAnyH_take (i := 11) (v := ?_) rfl (by kernel_rfl) (by kernel_rfl) (by kernel_rfl) (fun _ _ _ h => h) (Or.inl ⟨by rfl, ?_⟩) (by assumption) ?_
    rotate_left
    · first | (intro w hSw; (try dsimp only at hSw); go_simp; done) | (intro w hSw; (try dsimp only at hSw); go_simp; with_reducible rfl)
    try simp only [Act.put, List.getElem_toArray, List.getElem_cons_zero, List.getElem_cons_succ, List.setIfInBounds_toArray, List.set_cons_zero, List.set_cons_succ]
    refine wpAnyH_take (i := 12) (v := undef) rfl (by kernel_rfl) (by kernel_rfl) (by kernel_rfl) (fun _ _ _ h => h) (Or.inr ⟨by rfl, rfl⟩) (by assumption) ?_
    try simp only [Act.put, List.getElem_toArray, List.getElem_cons_zero, List.getElem_cons_succ, List.setIfInBounds_toArray, List.set_cons_zero, List.set_cons_succ]
    refine wpAnyH_take (i := 13) (v := undef) rfl (by kernel_rfl) (by kernel_rfl) (by kernel_rfl) (fun _ _ _ h => h) (Or.inr ⟨by rfl, rfl⟩) (by assumption) ?_
    try simp only [Act.put, List.getElem_toArray, List.getElem_cons_zero, List.getElem_cons_succ, List.setIfInBounds_toArray, List.set_cons_zero, List.set_cons_succ]
    refine wpAnyH_take (i := 14) (v := undef) rfl (by kernel_rfl) (by kernel_rfl) (by kernel_rfl) (fun _ _ _ h => h) (Or.inr ⟨by rfl, rfl⟩) (by assumption) ?_
    try simp only [Act.put, List.getElem_toArray, List.getElem_cons_zero, List.getElem_cons_succ, List.setIfInBounds_toArray, List.set_cons_zero, List.set_cons_succ]
    refine wpAnyH_take (i := 15) (v := ?_) rfl (by kernel_rfl) (by kernel_rfl) (by kernel_rfl) (fun _ _ _ h => h) (Or.inl ⟨by rfl, ?_⟩) (by assumption) ?_
    rotate_left
    · first | (intro w hSw; (try dsimp only at hSw); go_simp; done) | (intro w hSw; (try dsimp only at hSw); go_simp; with_reducible rfl)
    try simp only [Act.put, List.getElem_toArray, List.getElem_cons_zero, List.getElem_cons_succ, List.setIfInBounds_toArray, List.set_cons_zero, List.set_cons_succ]
    refine wpAnyH_take (i := 16) (v := ?_) rfl (by kernel_rfl) (by kernel_rfl) (by kernel_rfl) (fun _ _ _ h => h) (Or.inl ⟨by rfl, ?_⟩) (by assumption) ?_
    rotate_left
    · first | (intro w hSw; (try dsimp only at hSw); go_simp; done) | (intro w hSw; (try dsimp only at hSw); go_simp; with_reducible rfl)
    try simp only [Act.put, List.getElem_toArray, List.getElem_cons_zero, List.getElem_cons_succ, List.setIfInBounds_toArray, List.set_cons_zero, List.set_cons_succ]
    refine wpAnyH_take (i := 17) (v := undef) rfl (by kernel_rfl) (by kernel_rfl) (by kernel_rfl) (fun _ _ _ h => h) (Or.inr ⟨by rfl, rfl⟩) (by assumption) ?_
    try simp only [Act.put, List.getElem_toArray, List.getElem_cons_zero, List.getElem_cons_succ, List.setIfInBounds_toArray, List.set_cons_zero, List.set_cons_succ]
    refine wpAnyH_take (i := 18) (v := undef) rfl (by kernel_rfl) (by kernel_rfl) (by kernel_rfl) (fun _ _ _ h => h) (Or.inr ⟨by rfl, rfl⟩) (by assumption) ?_
    try simp only [Act.put, List.getElem_toArray, List.getElem_cons_zero, List.getElem_cons_succ, List.setIfInBounds_toArray, List.set_cons_zero, List.set_cons_succ]
    refine wpAnyH_take (i := 19) (v := undef) rfl (by kernel_rfl) (by kernel_rfl) (by kernel_rfl) (fun _ _ _ h => h) (Or.inr ⟨by rfl, rfl⟩) (by assumption) ?_
    try simp only [Act.put, List.getElem_toArray, List.getElem_cons_zero, List.getElem_cons_succ, List.setIfInBounds_toArray, List.set_cons_zero, List.set_cons_succ]
    refine wpAnyH_take (i := 20) (v := ?_) rfl (by kernel_rfl) (by kernel_rfl) (by kernel_rfl) (fun _ _ _ h => h) (Or.inl ⟨by rfl, ?_⟩) (by assumption) ?_
    rotate_left
    · first | (intro w hSw; (try dsimp only at hSw); go_simp; done) | (intro w hSw; (try dsimp only at hSw); go_simp; with_reducible rfl)
    try simp only [Act.put, List.getElem_toArray, List.getElem_cons_zero, List.getElem_cons_succ, List.setIfInBounds_toArray, List.set_cons_zero, List.set_cons_succ]
    refine wpAnyH_take (i := 21) (v := ?_) rfl (by kernel_rfl) (by kernel_rfl) (by kernel_rfl) (fun _ _ _ h => h) (Or.inl ⟨by rfl, ?_⟩) (by assumption) ?_
    rotate_left
    · first | (intro w hSw; (try dsimp only at hSw); go_simp; done) | (intro w hSw; (try dsimp only at hSw); go_simp; with_reducible rfl)
    try simp only [Act.put, List.getElem_toArray, List.getElem_cons_zero, List.getElem_cons_succ, List.setIfInBounds_toArray, List.set_cons_zero, List.set_cons_succ]
    refine wpAnyH_take (i := 22) (v := ?_) rfl (by kernel_rfl) (by kernel_rfl) (by kernel_rfl) (fun _ _ _ h => h) (Or.inl ⟨by rfl, ?_⟩) (by assumption) ?_
    rotate_left
    · first | (intro w hSw; (try dsimp only at hSw); go_simp; done) | (intro w hSw; (try dsimp only at hSw); go_simp; with_reducible rfl)
    try simp only [Act.put, List.getElem_toArray, List.getElem_cons_zero, List.getElem_cons_succ, List.setIfInBounds_toArray, List.set_cons_zero, List.set_cons_succ]
    refine wpAnyH_done (by kernel_rfl) ?_ _
    all_goals
      go_wp2
      go_ret2
      exact cont_ret J1.out (fun h => by cases h) (fun _ h => by have := h.1; dsimp only at this; omega)
  by_cases hn2 : 536870911 < num
  · go_enter Try.func82, Try.ntmps82
    go_wp2_with fail
    have d1 : decide (1 ≤ num) = true := by simp; omega
    have q1 : 1 ≤ num := by omega
    have d2 : decide (num ≤ 536870911) = false := by simp; omega
    have q2 : ¬ num ≤ 536870911 := by omega
    have k0 : (w.alloc (.cells #[.int .i64 num, .int .i64 2, .int .u64 u, .string b] 24)).cell? ⟨w.heap.size, 0, none⟩ = some (.int .i64 num) := cell_of_row _ _ 0 _ 24 (0, 0) (heap_alloc_new w _)
    have k2 : (w.alloc (.cells #[.int .i64 num, .int .i64 2, .int .u64 u, .string b] 24)).cell? ⟨w.heap.size, 2, none⟩ = some (.int .u64 u) := cell_of_row _ _ 2 _ 24 (0, 0) (heap_alloc_new w _)
    have k3 : (w.alloc (.cells #[.int .i64 num, .int .i64 2, .int .u64 u, .string b] 24)).cell? ⟨w.heap.size, 3, none⟩ = some (.string b) := cell_of_row _ _ 3 _ 24 (0, 0) (heap_alloc_new w _)
    have kb : Below w.heap.size w (w.alloc (.cells #[.int .i64 num, .int .i64 2, .int .u64 u, .string b] 24)) := (Below.refl _ _).alloc (Nat.le_refl _) _
    have kz : w.heap.size < (w.alloc (.cells #[.int .i64 num, .int .i64 2, .int .u64 u, .string b] 24)).heap.size := by simp
    generalize w.alloc (.cells #[.int .i64 num, .int .i64 2, .int .u64 u, .string b] 24) = W0 at k0 k2 k3 kb kz ⊢
    refine wp_region_held_drew (S := fun W => W.cell? ⟨w.heap.size, 0, none⟩ = some (.int .i64 num) ∧ W.cell? ⟨w.heap.size, 2, none⟩ = some (.int .u64 u) ∧ W.cell? ⟨w.heap.size, 3, none⟩ = some (.string b)) (by kernel_rfl) ⟨k0, k2, k3⟩ (fun hHeld => ?_)
    refine wpAnyH_take (i := 0) (v := ?_) rfl (by kernel_rfl) (by kernel_rfl) (by kernel_rfl) (fun _ _ _ h => h) (Or.inl ⟨by rfl, ?_⟩) (by assumption) ?_
    rotate_left
    · first | (intro w hSw; (try dsimp only at hSw); go_simp; done) | (intro w hSw; (try dsimp only at hSw); go_simp; with_reducible rfl)
    try simp only [Act.put, List.getElem_toArray, List.getElem_cons_zero, List.setIfInBounds_toArray, List.set_cons_zero, List.set_cons_succ]
    refine wpAnyH_take (i := 1) (v := ?_) rfl (by kernel_rfl) (by kernel_rfl) (by kernel_rfl) (fun _ _ _ h => h) (Or.inl ⟨by rfl, ?_⟩) (by assumption) ?_
    rotate_left
    · first | (intro w hSw; (try dsimp only at hSw); go_simp; done) | (intro w hSw; (try dsimp only at hSw); go_simp; with_reducible rfl)
    try simp only [Act.put, List.getElem_toArray, List.getElem_cons_zero, List.getElem_cons_succ, List.setIfInBounds_toArray, List.set_cons_zero, List.set_cons_succ]
    refine wpAnyH_take (i := 2) (v := ?_) rfl (by kernel_rfl) (by kernel_rfl) (by kernel_rfl) (fun _ _ _ h => h) (Or.inl ⟨by rfl, ?_⟩) (by assumption) ?_
    rotate_left
    · first | (intro w hSw; (try dsimp only at hSw); go_simp; done) | (intro w hSw; (try dsimp only at hSw); go_simp; with_reducible rfl)
    try simp only [Act.put, List.getElem_toArray, List.getElem_cons_zero, List.getElem_cons_succ, List.setIfInBounds_toArray, List.set_cons_zero, List.set_cons_succ]
    refine wpAnyH_take (i := 3) (v := ?_) rfl (by kernel_rfl) (by kernel_rfl) (by kernel_rfl) (fun _ _ _ h => h) (Or.inl ⟨by rfl, ?_⟩) (by assumption) ?_
    rotate_left
    · first | (intro w hSw; (try dsimp only at hSw); go_simp; done) | (intro w hSw; (try dsimp only at hSw); go_simp; with_reducible rfl)
    try simp only [Act.put, List.getElem_toArray, List.getElem_cons_zero, List.getElem_cons_succ, List.setIfInBounds_toArray, List.set_cons_zero, List.set_cons_succ]
    refine wpAnyH_take (i := 5) (v := ?_) rfl (by kernel_rfl) (by kernel_rfl) (by kernel_rfl) (fun _ _ _ h => h) (Or.inl ⟨by rfl, ?_⟩) (by assumption) ?_
    rotate_left
    · first | (intro w hSw; (try dsimp only at hSw); go_simp; done) | (intro w hSw; (try dsimp only at hSw); go_simp; with_reducible rfl)
    try simp only [Act.put, List.getElem_toArray, List.getElem_cons_zero, List.getElem_cons_succ, List.setIfInBounds_toArray, List.set_cons_zero, List.set_cons_succ]
    refine wpAnyH_take (i := 6) (v := ?_) rfl (by kernel_rfl) (by kernel_rfl) (by kernel_rfl) (fun _ _ _ h => h) (Or.inl ⟨by rfl, ?_⟩) (by assumption) ?_
    rotate_left
    · first | (intro w hSw; (try dsimp only at hSw); go_simp; done) | (intro w hSw; (try dsimp only at hSw); go_simp; with_reducible rfl)
    try simp only [Act.put, List.getElem_toArray, List.getElem_cons_zero, List.getElem_cons_succ, List.setIfInBounds_toArray, List.set_cons_zero, List.set_cons_succ]
    refine wpAnyH_take (i := 8) (v := ?_) rfl (by kernel_rfl) (by kernel_rfl) (by kernel_rfl) (fun _ _ _ h => h) (Or.inl ⟨by rfl, ?_⟩) (by assumption) ?_
    rotate_left
    · first | (intro w hSw; (try dsimp only at hSw); go_simp; done) | (intro w hSw; (try dsimp only at hSw); go_simp; with_reducible rfl)
    try simp only [Act.put, List.getElem_toArray, List.getElem_cons_zero, List.getElem_cons_succ, List.setIfInBounds_toArray, List.set_cons_zero, List.set_cons_succ]
    refine wpAnyH_take (i := 9) (v := ?_) rfl (by kernel_rfl) (by kernel_rfl) (by kernel_rfl) (fun _ _ _ h => h) (Or.inl ⟨by rfl, ?_⟩) (by assumption) ?_
    rotate_left
    · first | (intro w hSw; (try dsimp only at hSw); go_simp; done) | (intro w hSw; (try dsimp only at hSw); go_simp; with_reducible rfl)
    try simp only [Act.put, List.getElem_toArray, List.getElem_cons_zero, List.getElem_cons_succ, List.setIfInBounds_toArray, List.set_cons_zero, List.set_cons_succ]
    refine wpAnyH_take (i := 10) (v := ?_) rfl (by kernel_rfl) (by kernel_rfl) (by kernel_rfl) (fun _ _ _ h => h) (Or.inl ⟨by rfl, ?_⟩) (by assumption) ?_
    rotate_left
    · first | (intro w hSw; (try dsimp only at hSw); go_simp; done) | (intro w hSw; (try dsimp only at hSw); go_simp; with_reducible rfl)
    try simp only [Act.put, List.getElem_toArray, List.getElem_cons_zero, List.getElem_cons_succ, List.setIfInBounds_toArray, List.set_cons_zero, List.set_cons_succ]
    refine wpAnyH_ready (rs := [4]) (by kernel_rfl) (by simp) ?_
    refine AllReadyH.cons rfl (fun K hK => ?_) AllReadyH.nil
    go_simp
    go_at_call 65; refine (HT.out _).mono ?_; rintro e w1 ⟨rfl, hb1⟩; have j0 : w1.cell? ⟨w.heap.size, 0, none⟩ = some (.int .i64 num) := (hb1.cell kz).trans k0; have j2 : w1.cell? ⟨w.heap.size, 2, none⟩ = some (.int .u64 u) := (hb1.cell kz).trans k2; have j3 : w1.cell? ⟨w.heap.size, 3, none⟩ = some (.string b) := (hb1.cell kz).trans k3; have J1 := Lib.hid (Below.trans (below_drewN kb 1) (hb1.mono (Nat.le_of_lt kz))); clear hb1; dsimp only
    refine hK.out _ _ (⟨j0, j2, j3⟩) (fun hHeld => ?_)
    clear hK K
    try simp only [Act.put, List.getElem_toArray, List.getElem_cons_zero, List.getElem_cons_succ, List.setIfInBounds_toArray, List.set_cons_zero, List.set_cons_succ]
    refine wpAnyH_take (i := 7) (v := ?_) rfl (by kernel_rfl) (by kernel_rfl) (by kernel_rfl) (fun _ _ _ h => h) (Or.inl ⟨by rfl, ?_⟩) (by assumption) ?_
    rotate_left
    · first | (intro w hSw; (try dsimp only at hSw); go_simp; done) | (intro w hSw; (try dsimp only at hSw); go_simp; with_reducible rfl)
    try simp only [Act.put, List.getElem_toArray, List.getElem_cons_zero, List.getElem_cons_succ, List.setIfInBounds_toArray, List.set_cons_zero, List.set_cons_succ]
    refine wpAnyH_take (i := 11) (v := ?_) rfl (by kernel_rfl) (by kernel_rfl) (by kernel_rfl) (fun _ _ _ h => h) (Or.inl ⟨by rfl, ?_⟩) (by assumption) ?_
    rotate_left
    · first | (intro w hSw; (try dsimp only at hSw); go_simp; done) | (intro w hSw; (try dsimp only at hSw); go_simp; with_reducible rfl)
    try simp only [Act.put, List.getElem_toArray, List.getElem_cons_zero, List.getElem_cons_succ, List.setIfInBounds_toArray, List.set_cons_zero, List.set_cons_succ]
    refine wpAnyH_take (i := 12) (v := ?_) rfl (by kernel_rfl) (by kernel_rfl) (by kernel_rfl) (fun _ _ _ h => h) (Or.inl ⟨by rfl, ?_⟩) (by assumption) ?_
    rotate_left
    · first | (intro w hSw; (try dsimp only at hSw); go_simp; done) | (intro w hSw; (try dsimp only at hSw); go_simp; with_reducible rfl)
    try simp only [Act.put, List.getElem_toArray, List.getElem_cons_zero, List.getElem_cons_succ, List.setIfInBounds_toArray, List.set_cons_zero, List.set_cons_succ]
    refine wpAnyH_take (i := 13) (v := ?_) rfl (by kernel_rfl) (by kernel_rfl) (by kernel_rfl) (fun _ _ _ h => h) (Or.inl ⟨by rfl, ?_⟩) (by assumption) ?_
    rotate_left
    · first | (intro w hSw; (try dsimp only at hSw); go_simp; done) | (intro w hSw; (try dsimp only at hSw); go_simp; with_reducible rfl)
    try simp only [Act.put, List.getElem_toArray, List.getElem_cons_zero, List.getElem_cons_succ, List.setIfInBounds_toArray, List.set_cons_zero, List.set_cons_succ]
    refine wpAnyH_take (i := 14) (v := ?_) rfl (by kernel_rfl) (by kernel_rfl) (by kernel_rfl) (fun _ _ _ h => h) (Or.inl ⟨by rfl, ?_⟩) (by assumption) ?_
    rotate_left
    · first | (intro w hSw; (try dsimp only at hSw); go_simp; done) | (intro w hSw; (try dsimp only at hSw); go_simp; with_reducible rfl)
    try simp only [Act.put, List.getElem_toArray, List.getElem_cons_zero, List.getElem_cons_succ, List.setIfInBounds_toArray, List.set_cons_zero, List.set_cons_succ]
    refine wpAnyH_take (i := 15) (v := ?_) rfl (by kernel_rfl) (by kernel_rfl) (by kernel_rfl) (fun _ _ _ h => h) (Or.inl ⟨by rfl, ?_⟩) (by assumption) ?_
    rotate_left
    · first | (intro w hSw; (try dsimp only at hSw); go_simp; done) | (intro w hSw; (try dsimp only at hSw); go_simp; with_reducible rfl)
    try simp only [Act.put, List.getElem_toArray, List.getElem_cons_zero, List.getElem_cons_succ, List.setIfInBounds_toArray, List.set_cons_zero, List.set_cons_succ]
    refine wpAnyH_take (i := 16) (v := ?_) rfl (by kernel_rfl) (by kernel_rfl) (by kernel_rfl) (fun _ _ _ h => h) (Or.inl ⟨by rfl, ?_⟩) (by assumption) ?_
    rotate_left
    · first | (intro w hSw; (try dsimp only at hSw); go_simp; done) | (intro w hSw; (try dsimp only at hSw); go_simp; with_reducible rfl)
    try simp only [Act.put, List.getElem_toArray, List.getElem_cons_zero, List.getElem_cons_succ, List.setIfInBounds_toArray, List.set_cons_zero, List.set_cons_succ]
    refine wpAnyH_take (i := 17) (v := undef) rfl (by kernel_rfl) (by kernel_rfl) (by kernel_rfl) (fun _ _ _ h => h) (Or.inr ⟨by rfl, rfl⟩) (by assumption) ?_
    try simp only [Act.put, List.getElem_toArray, List.getElem_cons_zero, List.getElem_cons_succ, List.setIfInBounds_toArray, List.set_cons_zero, List.set_cons_succ]
    refine wpAnyH_take (i := 18) (v := undef) rfl (by kernel_rfl) (by kernel_rfl) (by kernel_rfl) (fun _ _ _ h => h) (Or.inr ⟨by rfl, rfl⟩) (by assumption) ?_
    try simp only [Act.put, List.getElem_toArray, List.getElem_cons_zero, List.getElem_cons_succ, List.setIfInBounds_toArray, List.set_cons_zero, List.set_cons_succ]
    refine wpAnyH_take (i := 19) (v := undef) rfl (by kernel_rfl) (by kernel_rfl) (by kernel_rfl) (fun _ _ _ h => h) (Or.inr ⟨by rfl, rfl⟩) (by assumption) ?_
    try simp only [Act.put, List.getElem_toArray, List.getElem_cons_zero, List.getElem_cons_succ, List.setIfInBounds_toArray, List.set_cons_zero, List.set_cons_succ]
    refine wpAnyH_take (i := 20) (v := ?_) rfl (by kernel_rfl) (by kernel_rfl) (by kernel_rfl) (fun _ _ _ h => h) (Or.inl ⟨by rfl, ?_⟩) (by assumption) ?_
    rotate_left
    · first | (intro w hSw; (try dsimp only at hSw); go_simp; done) | (intro w hSw; (try dsimp only at hSw); go_simp; with_reducible rfl)
    try simp only [Act.put, List.getElem_toArray, List.getElem_cons_zero, List.getElem_cons_succ, List.setIfInBounds_toArray, List.set_cons_zero, List.set_cons_succ]
    refine wpAnyH_take (i := 21) (v := ?_) rfl (by kernel_rfl) (by kernel_rfl) (by kernel_rfl) (fun _ _ _ h => h) (Or.inl ⟨by rfl, ?_⟩) (by assumption) ?_
    rotate_left
    · first | (intro w hSw; (try dsimp only at hSw); go_simp; done) | (intro w hSw; (try dsimp only at hSw); go_simp; with_reducible rfl)
    try simp only [Act.put, List.getElem_toArray, List.getElem_cons_zero, List.getElem_cons_succ, List.setIfInBounds_toArray, List.set_cons_zero, List.set_cons_succ]
    refine wpAnyH_take (i := 22) (v := ?_) rfl (by kernel_rfl) (by kernel_rfl) (by kernel_rfl) (fun _ _ _ h => h) (Or.inl ⟨by rfl, ?_⟩) (by assumption) ?_
    rotate_left
    · first | (intro w hSw; (try dsimp only at hSw); go_simp; done) | (intro w hSw; (try dsimp only at hSw); go_simp; with_reducible rfl)
    try simp only [Act.put, List.getElem_toArray, List.getElem_cons_zero, List.getElem_cons_succ, List.setIfInBounds_toArray, List.set_cons_zero, List.set_cons_succ]
    refine wpAnyH_done (by kernel_rfl) ?_ _
    all_goals
      go_wp2
      go_ret2
      exact cont_ret J1.out (fun h => by cases h) (fun _ h => by have := h.2.1; dsimp only at this; omega)
  by_cases hu : u = 0
  · subst hu
    go_enter Try.func82, Try.ntmps82
    go_wp2_with fail
    have d1 : decide (1 ≤ num) = true := by simp; omega
    have q1 : 1 ≤ num := by omega
    have d2 : decide (num ≤ 536870911) = true := by simp; omega
    have q2 : num ≤ 536870911 := by omega
    have k0 : (w.alloc (.cells #[.int .i64 num, .int .i64 2, .int .u64 0, .string b] 24)).cell? ⟨w.heap.size, 0, none⟩ = some (.int .i64 num) := cell_of_row _ _ 0 _ 24 (0, 0) (heap_alloc_new w _)
    have k2 : (w.alloc (.cells #[.int .i64 num, .int .i64 2, .int .u64 0, .string b] 24)).cell? ⟨w.heap.size, 2, none⟩ = some (.int .u64 0) := cell_of_row _ _ 2 _ 24 (0, 0) (heap_alloc_new w _)
    have k3 : (w.alloc (.cells #[.int .i64 num, .int .i64 2, .int .u64 0, .string b] 24)).cell? ⟨w.heap.size, 3, none⟩ = some (.string b) := cell_of_row _ _ 3 _ 24 (0, 0) (heap_alloc_new w _)
    have kb : Below w.heap.size w (w.alloc (.cells #[.int .i64 num, .int .i64 2, .int .u64 0, .string b] 24)) := (Below.refl _ _).alloc (Nat.le_refl _) _
    have kz : w.heap.size < (w.alloc (.cells #[.int .i64 num, .int .i64 2, .int .u64 0, .string b] 24)).heap.size := by simp
    generalize w.alloc (.cells #[.int .i64 num, .int .i64 2, .int .u64 0, .string b] 24) = W0 at k0 k2 k3 kb kz ⊢
    go_region_held3 (fun W => W.cell? ⟨w.heap.size, 0, none⟩ = some (.int .i64 num) ∧ W.cell? ⟨w.heap.size, 2, none⟩ = some (.int .u64 0) ∧ W.cell? ⟨w.heap.size, 3, none⟩ = some (.string b)) (first | exact ⟨k0, k2, k3⟩ | exact ⟨j0, j2, j3⟩ | exact ⟨by assumption, by assumption, by assumption⟩ | go_keep)
      (first | (go_at_call 65; refine (HT.out _).mono ?_; rintro e w1 ⟨rfl, hb1⟩; have j0 : w1.cell? ⟨w.heap.size, 0, none⟩ = some (.int .i64 num) := (hb1.cell kz).trans k0; have j2 : w1.cell? ⟨w.heap.size, 2, none⟩ = some (.int .u64 0) := (hb1.cell kz).trans k2; have j3 : w1.cell? ⟨w.heap.size, 3, none⟩ = some (.string b) := (hb1.cell kz).trans k3; have J1 := Lib.hid (Below.trans (below_drewN kb 1) (hb1.mono (Nat.le_of_lt kz))); clear hb1))
    all_goals
      go_wp2
      go_ret2
      exact cont_ret J1.out (fun _ => ⟨⟨by dsimp only; omega, by dsimp only; omega, .inr (.inr (.inr ⟨rfl, rfl⟩))⟩, rfl⟩) (fun h => by cases h)
  · have du : (u == 0) = false := by simpa using hu
    have Hu := Lib.hid hu
    clear hu
    go_enter Try.func82, Try.ntmps82
    go_wp2_with fail
    have d1 : decide (1 ≤ num) = true := by simp; omega
    have q1 : 1 ≤ num := by omega
    have d2 : decide (num ≤ 536870911) = true := by simp; omega
    have q2 : num ≤ 536870911 := by omega
    have k0 : (w.alloc (.cells #[.int .i64 num, .int .i64 2, .int .u64 u, .string b] 24)).cell? ⟨w.heap.size, 0, none⟩ = some (.int .i64 num) := cell_of_row _ _ 0 _ 24 (0, 0) (heap_alloc_new w _)
    have k2 : (w.alloc (.cells #[.int .i64 num, .int .i64 2, .int .u64 u, .string b] 24)).cell? ⟨w.heap.size, 2, none⟩ = some (.int .u64 u) := cell_of_row _ _ 2 _ 24 (0, 0) (heap_alloc_new w _)
    have k3 : (w.alloc (.cells #[.int .i64 num, .int .i64 2, .int .u64 u, .string b] 24)).cell? ⟨w.heap.size, 3, none⟩ = some (.string b) := cell_of_row _ _ 3 _ 24 (0, 0) (heap_alloc_new w _)
    have kb : Below w.heap.size w (w.alloc (.cells #[.int .i64 num, .int .i64 2, .int .u64 u, .string b] 24)) := (Below.refl _ _).alloc (Nat.le_refl _) _
    have kz : w.heap.size < (w.alloc (.cells #[.int .i64 num, .int .i64 2, .int .u64 u, .string b] 24)).heap.size := by simp
    generalize w.alloc (.cells #[.int .i64 num, .int .i64 2, .int .u64 u, .string b] 24) = W0 at k0 k2 k3 kb kz ⊢
    go_region_held3 (fun W => W.cell? ⟨w.heap.size, 0, none⟩ = some (.int .i64 num) ∧ W.cell? ⟨w.heap.size, 2, none⟩ = some (.int .u64 u) ∧ W.cell? ⟨w.heap.size, 3, none⟩ = some (.string b)) (first | exact ⟨k0, k2, k3⟩ | exact ⟨j0, j2, j3⟩ | exact ⟨by assumption, by assumption, by assumption⟩ | go_keep)
      (first | (go_at_call 65; refine (HT.out _).mono ?_; rintro e w1 ⟨rfl, hb1⟩; have j0 : w1.cell? ⟨w.heap.size, 0, none⟩ = some (.int .i64 num) := (hb1.cell kz).trans k0; have j2 : w1.cell? ⟨w.heap.size, 2, none⟩ = some (.int .u64 u) := (hb1.cell kz).trans k2; have j3 : w1.cell? ⟨w.heap.size, 3, none⟩ = some (.string b) := (hb1.cell kz).trans k3; have J1 := Lib.hid (Below.trans (below_drewN kb 1) (hb1.mono (Nat.le_of_lt kz))); clear hb1))
    all_goals
      go_wp2
      go_ret2
      exact cont_ret J1.out (fun h => by cases h) (fun _ h => by rcases h.2.2 with ⟨h, h2⟩ | ⟨h, h2⟩ | ⟨h, h2, _⟩ | ⟨_, h⟩ <;> first | exact Hu.out h | (dsimp only at h; omega))
end Go.Proofs.Ytkcnpnnflbibiaa

/- The walks: what stands behind a field's head, every kind; and the reference's form of a field. -/
namespace Go.Proofs.Ytkcnpnnflbibiaa
open Go.RowKit

set_option maxRecDepth 100000 in
set_option maxHeartbeats 1600000 in
theorem content_o (num kind u : Int) (b : ByteArray) (w : World) (k0 : kind ≠ 0) (k1 : kind ≠ 1) (k2 : kind ≠ 2) (k5 : kind ≠ 5) : Calls Try.prog 82 #[(Fd.mk num kind u b).val] w (ContIs ⟨num, kind, u, b⟩ w) := by
  have e0 : (kind == 0) = false := by simpa using k0
  have e1 : (kind == 1) = false := by simpa using k1
  have e2 : (kind == 2) = false := by simpa using k2
  have e5 : (kind == 5) = false := by simpa using k5
  have K0 := Lib.hid k0
  have K1 := Lib.hid k1
  have K2 := Lib.hid k2
  have K5 := Lib.hid k5
  clear k0 k1 k2 k5
  unfold Fd.val
  go_enter Try.func82, Try.ntmps82
  go_wp2
  all_goals
    go_ret2
    exact cont_ret ((Below.refl _ _).alloc (Nat.le_refl _) _) (fun h => by cases h) (fun _ h => by rcases h.2.2 with ⟨h, _⟩ | ⟨h, _⟩ | ⟨h, _⟩ | ⟨h, _⟩ <;> first | exact K0.out h | exact K1.out h | exact K2.out h | exact K5.out h)
theorem content_any (f : Fd) (w : World) (h : FdOk f) : Calls Try.prog 82 #[f.val] w (ContIs f w) := by
  obtain ⟨num, kind, u, b⟩ := f
  by_cases k0 : kind = 0
  · subst k0; exact content_0 num u b w h
  by_cases k1 : kind = 1
  · subst k1; exact content_1 num u b w h
  by_cases k2 : kind = 2
  · subst k2; exact content_2 num u b w h
  by_cases k5 : kind = 5
  · subst k5; exact content_5 num u b w h
  exact content_o num kind u b w k0 k1 k2 k5

/-- What one leaves. -/
def OneIs (f : Fd) (w : World) (e : Ending) (w' : World) : Prop := ((GoodF f ∧ e = .returned (.tuple #[.string (formB f), .bool true])) ∨ (¬ GoodF f ∧ e = .returned (.tuple #[.string ⟨#[]⟩, .bool false]))) ∧ Below w.heap.size w w'
theorem one_no {f : Fd} {w w' : World} (hb : Below w.heap.size w w') (h : ¬ GoodF f) : OneIs f w (.returned (.tuple #[.string ⟨#[]⟩, .bool false])) w' := ⟨.inr ⟨h, rfl⟩, hb⟩
theorem one_yes {f : Fd} {w w' : World} {c : ByteArray} (hb : Below w.heap.size w w') (h : GoodF f) (hc : c = formB f) : OneIs f w (.returned (.tuple #[.string c, .bool true])) w' := by subst hc; exact ⟨.inl ⟨h, rfl⟩, hb⟩
theorem venc_sz (a : Int) : (strOfNums (venc a)).size ≤ 10 := by rw [strOfNums_size]; exact (vencF_len 9 a).2

set_option maxRecDepth 100000 in
set_option maxHeartbeats 1600000 in
theorem one_bad (num kind u : Int) (b : ByteArray) (w : World) (h : num < 1 ∨ 536870911 < num ∨ (kind ≠ 2 ∧ b ≠ ⟨#[]⟩) ∨ (kind = 2 ∧ u ≠ 0)) : Calls Try.prog 18 #[(Fd.mk num kind u b).val] w (OneIs ⟨num, kind, u, b⟩ w) := by
  have hbad : Hid (¬ GoodF ⟨num, kind, u, b⟩) := Lib.hid (by
    rintro ⟨g1, g2, g3⟩
    dsimp only at g1 g2 g3
    rcases h with h | h | ⟨h, h'⟩ | ⟨h, h'⟩
    · omega
    · omega
    · rcases g3 with ⟨_, g⟩ | ⟨_, g⟩ | ⟨_, g, _⟩ | ⟨g, _⟩
      · exact h' g
      · exact h' g
      · exact h' g
      · exact h g
    · rcases g3 with ⟨g, _⟩ | ⟨g, _⟩ | ⟨g, _⟩ | ⟨_, g⟩ <;> first | exact h' g | omega)
  unfold Fd.val
  rcases h with h | h | ⟨h, h'⟩ | ⟨rfl, h'⟩
  · go_enter Try.func18, Try.ntmps18
    go_wp2
    go_ret2
    exact one_no ((Below.refl _ _).alloc (Nat.le_refl _) _) hbad.out
  · go_enter Try.func18, Try.ntmps18
    go_wp2
    go_ret2
    exact one_no ((Below.refl _ _).alloc (Nat.le_refl _) _) hbad.out
  · have e1 : (kind == 2) = false := by simpa using h
    have e2 := empty_ne h'
    clear h'
    go_enter Try.func18, Try.ntmps18
    go_wp2
    all_goals
      go_ret2
      exact one_no ((Below.refl _ _).alloc (Nat.le_refl _) _) hbad.out
  · have e1 : (u == 0) = false := by simpa using h'
    have e2 : (u != 0) = true := by simpa using h'
    go_enter Try.func18, Try.ntmps18
    go_wp2
    all_goals
      go_ret2
      exact one_no ((Below.refl _ _).alloc (Nat.le_refl _) _) hbad.out
end Go.Proofs.Ytkcnpnnflbibiaa

/- The walks: the reference's form of a field. -/
namespace Go.Proofs.Ytkcnpnnflbibiaa
open Go.RowKit

theorem u64_bd (x : Int) : 0 ≤ IntKind.u64.wrap x ∧ IntKind.u64.wrap x < B64 := by
  unfold B64
  simp [IntKind.wrap, IntKind.signed, IntKind.bits]
  omega

set_option maxRecDepth 100000 in
set_option maxHeartbeats 1600000 in
theorem one_0 (num u : Int) (w : World) (n1 : 1 ≤ num) (n2 : num ≤ 536870911) (u0 : 0 ≤ u) (u1 : u < B64) : Calls Try.prog 18 #[(Fd.mk num 0 u ⟨#[]⟩).val] w (OneIs ⟨num, 0, u, ⟨#[]⟩⟩ w) := by
  have U1 := Lib.hid u1
  clear u1
  unfold Fd.val
  have hq : ¬ 9223372036854775807 < (strOfNums (venc (num * 8))).size + (strOfNums (venc u)).size := by
    have := venc_sz (num * 8)
    have := venc_sz u
    omega
  go_enter Try.func18, Try.ntmps18
  go_wp2_with fail
  refine (rvarint_w _ _ (by omega) (by unfold B64; omega)).mono ?_
  rintro e w1 ⟨rfl, hb1⟩
  have c2 : w1.cell? ⟨w.heap.size, 2, none⟩ = some (.int .u64 u) := (hb1.cell (by simp)).trans (cell_of_row _ _ 2 _ 24 (0, 0) (heap_alloc_new w _))
  have c1 : w1.cell? ⟨w.heap.size, 1, none⟩ = some (.int .i64 0) := (hb1.cell (by simp)).trans (cell_of_row _ _ 1 _ 24 (0, 0) (heap_alloc_new w _))
  have Hb1 := Lib.hid (((Below.refl w.heap.size w).alloc (Nat.le_refl _) _).trans (hb1.mono (by simp)))
  have z1 := Hb1.out.size
  clear hb1
  go_wp2_with fail
  refine (rvarint_w u _ u0 U1.out).mono ?_
  rintro e w2 ⟨rfl, hb2⟩
  have Hb2 := Lib.hid (Hb1.out.trans (hb2.mono z1))
  clear hb2
  go_wp2
  go_ret2
  exact one_yes Hb2.out ⟨n1, n2, .inl ⟨rfl, rfl⟩⟩ (by simp [formB, headB, contB])

set_option maxRecDepth 100000 in
set_option maxHeartbeats 1600000 in
theorem one_o (num kind u : Int) (w : World) (n1 : 1 ≤ num) (n2 : num ≤ 536870911) (k0 : kind ≠ 0) (k1 : kind ≠ 1) (k2 : kind ≠ 2) (k5 : kind ≠ 5) (r0 : -9223372036854775808 ≤ kind) (r1 : kind ≤ 9223372036854775807) : Calls Try.prog 18 #[(Fd.mk num kind u ⟨#[]⟩).val] w (OneIs ⟨num, kind, u, ⟨#[]⟩⟩ w) := by
  have e0 : (kind == 0) = false := by simpa using k0
  have e1 : (kind == 1) = false := by simpa using k1
  have e2 : (kind == 2) = false := by simpa using k2
  have e5 : (kind == 5) = false := by simpa using k5
  have hno : Hid (¬ GoodF ⟨num, kind, u, ⟨#[]⟩⟩) := Lib.hid (fun h => by rcases h.2.2 with ⟨h, _⟩ | ⟨h, _⟩ | ⟨h, _⟩ | ⟨h, _⟩ <;> first | exact k0 h | exact k1 h | exact k2 h | exact k5 h)
  unfold Fd.val
  go_enter Try.func18, Try.ntmps18
  go_wp2_with fail
  refine (rvarint_w _ _ (u64_bd _).1 (u64_bd _).2).mono ?_
  rintro e w1 ⟨rfl, hb1⟩
  have c1 : w1.cell? ⟨w.heap.size, 1, none⟩ = some (.int .i64 kind) := (hb1.cell (by simp)).trans (cell_of_row _ _ 1 _ 24 (0, 0) (heap_alloc_new w _))
  have Hb1 := Lib.hid (((Below.refl w.heap.size w).alloc (Nat.le_refl _) _).trans (hb1.mono (by simp)))
  clear hb1
  go_wp2
  go_ret2
  exact one_no Hb1.out hno.out

set_option maxRecDepth 100000 in
set_option maxHeartbeats 1600000 in
theorem one_2 (num : Int) (b : ByteArray) (w : World) (n1 : 1 ≤ num) (n2 : num ≤ 536870911) (hz : b.size ≤ 140737488351232) : Calls Try.prog 18 #[(Fd.mk num 2 0 b).val] w (OneIs ⟨num, 2, 0, b⟩ w) := by
  unfold Fd.val
  have T : ∀ w, Calls Try.prog 50 #[.int .u64 (IntKind.u64.wrap (b.size : Int))] w fun e w' => e = .returned (.string (strOfNums (venc b.size))) ∧ Below w.heap.size w w' := fun w => by
    rw [IntWalk.u64_in _ ⟨by omega, by omega⟩]
    exact rvarint_w (b.size : Int) w (by omega) (by unfold B64; omega)
  have HT := Lib.hid T
  clear T
  have hq : ¬ 9223372036854775807 < (strOfNums (venc (num * 8 + 2))).size + (strOfNums (venc (b.size : Int))).size := by
    have := venc_sz (num * 8 + 2)
    have := venc_sz b.size
    omega
  have hq2 : ¬ 9223372036854775807 < (strOfNums (venc (num * 8 + 2))).size + (strOfNums (venc (b.size : Int))).size + b.size := by
    have := venc_sz (num * 8 + 2)
    have := venc_sz b.size
    omega
  go_enter Try.func18, Try.ntmps18
  go_wp2_with fail
  refine (rvarint_w _ _ (by omega) (by unfold B64; omega)).mono ?_
  rintro e w1 ⟨rfl, hb1⟩
  have c3 : w1.cell? ⟨w.heap.size, 3, none⟩ = some (.string b) := (hb1.cell (by simp)).trans (cell_of_row _ _ 3 _ 24 (0, 0) (heap_alloc_new w _))
  have c1 : w1.cell? ⟨w.heap.size, 1, none⟩ = some (.int .i64 2) := (hb1.cell (by simp)).trans (cell_of_row _ _ 1 _ 24 (0, 0) (heap_alloc_new w _))
  have hz1 : w.heap.size < w1.heap.size := Nat.lt_of_lt_of_le (by simp) hb1.size
  have kb := ((Below.refl w.heap.size w).alloc (Nat.le_refl _) (.cells #[.int .i64 num, .int .i64 2, .int .u64 0, .string b] 24)).trans (hb1.mono (by simp))
  clear hb1
  go_wp2_with fail
  go_region_held3 (fun W => W.cell? ⟨w.heap.size, 3, none⟩ = some (.string b)) (first | exact c3 | exact j3 | assumption | go_keep)
    (first | (go_at_call 50; refine (HT.out _).mono ?_; rintro e w2 ⟨rfl, hb2⟩; have j3 : w2.cell? ⟨w.heap.size, 3, none⟩ = some (.string b) := (hb2.cell hz1).trans c3; have J1 := Lib.hid (Below.trans (below_drewN kb 1) (hb2.mono (Nat.le_of_lt hz1))); clear hb2))
  all_goals
    go_wp2
    go_ret2
    exact one_yes J1.out ⟨n1, n2, .inr (.inr (.inr ⟨rfl, rfl⟩))⟩ (by simp [formB, headB, contB, ByteArray.append_assoc])

/-- The bytes of a number one by one. -/
theorem byt_step (u : Int) (k : Nat) : u / 256 ^ k / 256 = u / 256 ^ (k + 1) := by
  rw [Int.pow_succ, Int.ediv_ediv_of_nonneg (Int.pow_nonneg (by omega))]
theorem leS_step (u : Int) (k : Nat) : leS (k + 1) u = leS k u ++ [byt u k] := by simp [leS, List.range_succ]

set_option maxRecDepth 100000 in
set_option maxHeartbeats 1600000 in
theorem one_1 (num u : Int) (w : World) (n1 : 1 ≤ num) (n2 : num ≤ 536870911) (u0 : 0 ≤ u) (u1 : u < B64) : Calls Try.prog 18 #[(Fd.mk num 1 u ⟨#[]⟩).val] w (OneIs ⟨num, 1, u, ⟨#[]⟩⟩ w) := by
  unfold Fd.val
  obtain ⟨i0, hi, hz0, hz1, hz2⟩ := info_parts Try.info5
  have Hcv := Lib.hid (fun wx v l B (h : OwnB wx B v l) => run_string_own (P := Try.prog) wx 51 9 Try.underlying51 Try.underlying5 Try.underlying9 B v l h)
  have hq : ¬ 9223372036854775807 < (strOfNums (venc (num * 8 + 1))).size + (strOfNums (leS 8 u)).size := by
    have := venc_sz (num * 8 + 1)
    rw [strOfNums_size (leS 8 u)]
    simp [leS]
    omega
  have hyb : ∀ k, 0 ≤ u / 256 ^ k ∧ u / 256 ^ k < B64 := fun k => ⟨Int.ediv_nonneg u0 (Int.pow_nonneg (by omega)), Int.lt_of_le_of_lt (Int.ediv_le_self _ u0) (u1)⟩
  have Hyb := Lib.hid hyb
  have U1 := Lib.hid u1
  clear hyb u1
  go_enter Try.func18, Try.ntmps18
  go_wp2_with fail
  refine (rvarint_w _ _ (by omega) (by unfold B64; omega)).mono ?_
  rintro e w1 ⟨rfl, hb1⟩
  have c2 : w1.cell? ⟨w.heap.size, 2, none⟩ = some (.int .u64 u) := (hb1.cell (by simp)).trans (cell_of_row _ _ 2 _ 24 (0, 0) (heap_alloc_new w _))
  have c1 : w1.cell? ⟨w.heap.size, 1, none⟩ = some (.int .i64 1) := (hb1.cell (by simp)).trans (cell_of_row _ _ 1 _ 24 (0, 0) (heap_alloc_new w _))
  have Hb1 := Lib.hid (((Below.refl w.heap.size w).alloc (Nat.le_refl _) _).trans (hb1.mono (by simp)))
  have z1 := Hb1.out.size
  clear hb1
  go_wp2_with fail
  go_loopw [6, 7, 8] (fun v x i wr => ∃ k : Nat, k ≤ 8 ∧ i = .int .i64 k ∧ x = .int .u64 (u / 256 ^ k) ∧ OwnB wr w.heap.size v (leS k u) ∧ Below w.heap.size w wr) (fun _ _ i _ => 8 - (intOf i).toNat)
  case atStart => exact ⟨0, by omega, rfl, by simp, ownB_nil _ _, Hb1.out⟩
  case round =>
    obtain ⟨k, hk, rfl, rfl, ho, hb⟩ := hrel
    have hsz := hb.size
    by_cases hlt : k < 8
    · have hll : (leS k u).length = k := by simp [leS]
      obtain ⟨y, hy⟩ : ∃ y, y = u / 256 ^ k := ⟨_, rfl⟩
      have Y := Lib.hid hy
      have y0 := (Hyb.out k).1
      have y1 := (Hyb.out k).2
      rw [← hy] at y0 y1
      unfold B64 at y1
      simp only [← hy]
      clear hy
      go_wp2_with (at_builtin; refine wpList_append_b1 wr _ rfl (.tmp 87) (.tmp 91) 51 rfl i0 Try.underlying51 hi hz0 hz1 hz2 w.heap.size _ (leS k u) rfl ho rfl (by omega) hsz ?_; intro v' w2 hown hgrow)
      go_roundw
      case rel =>
        refine ⟨k + 1, by omega, by go_num, ?_, ?_, ownB_below ho hb hgrow hsz⟩
        · rw [← byt_step, ← Y.out]
        · have e : byt u k = y % 256 := by unfold byt; rw [← Y.out]
          rw [leS_step, e]; exact hown
      case measure => simp [intOf]; omega
    · obtain rfl : k = 8 := by omega
      have hc := Hcv.out _ _ _ _ ho
      have Hb := Lib.hid hb
      clear ho hb
      go_wp2
      go_ret2
      exact one_yes Hb.out ⟨n1, n2, .inr (.inl ⟨rfl, rfl⟩)⟩ (by simp [formB, headB, contB])

set_option maxRecDepth 100000 in
set_option maxHeartbeats 1600000 in
theorem one_5 (num u : Int) (w : World) (n1 : 1 ≤ num) (n2 : num ≤ 536870911) (u0 : 0 ≤ u) (u1 : u ≤ 4294967295) : Calls Try.prog 18 #[(Fd.mk num 5 u ⟨#[]⟩).val] w (OneIs ⟨num, 5, u, ⟨#[]⟩⟩ w) := by
  unfold Fd.val
  obtain ⟨i0, hi, hz0, hz1, hz2⟩ := info_parts Try.info5
  have Hcv := Lib.hid (fun wx v l B (h : OwnB wx B v l) => run_string_own (P := Try.prog) wx 51 9 Try.underlying51 Try.underlying5 Try.underlying9 B v l h)
  have hq : ¬ 9223372036854775807 < (strOfNums (venc (num * 8 + 5))).size + (strOfNums (leS 4 u)).size := by
    have := venc_sz (num * 8 + 5)
    rw [strOfNums_size (leS 4 u)]
    simp [leS]
    omega
  have hyb : ∀ k, 0 ≤ u / 256 ^ k ∧ u / 256 ^ k < B64 := fun k => ⟨Int.ediv_nonneg u0 (Int.pow_nonneg (by omega)), Int.lt_of_le_of_lt (Int.ediv_le_self _ u0) (by unfold B64; omega)⟩
  have Hyb := Lib.hid hyb
  have U1 := Lib.hid u1
  clear hyb
  go_enter Try.func18, Try.ntmps18
  go_wp2_with fail
  refine (rvarint_w _ _ (by omega) (by unfold B64; omega)).mono ?_
  rintro e w1 ⟨rfl, hb1⟩
  have c2 : w1.cell? ⟨w.heap.size, 2, none⟩ = some (.int .u64 u) := (hb1.cell (by simp)).trans (cell_of_row _ _ 2 _ 24 (0, 0) (heap_alloc_new w _))
  have c1 : w1.cell? ⟨w.heap.size, 1, none⟩ = some (.int .i64 5) := (hb1.cell (by simp)).trans (cell_of_row _ _ 1 _ 24 (0, 0) (heap_alloc_new w _))
  have Hb1 := Lib.hid (((Below.refl w.heap.size w).alloc (Nat.le_refl _) _).trans (hb1.mono (by simp)))
  have z1 := Hb1.out.size
  clear hb1
  go_wp2_with fail
  go_loopw [6, 7, 8] (fun v x i wr => ∃ k : Nat, k ≤ 4 ∧ i = .int .i64 k ∧ x = .int .u64 (u / 256 ^ k) ∧ OwnB wr w.heap.size v (leS k u) ∧ Below w.heap.size w wr) (fun _ _ i _ => 4 - (intOf i).toNat)
  case atStart => exact ⟨0, by omega, rfl, by simp, ownB_nil _ _, Hb1.out⟩
  case round =>
    obtain ⟨k, hk, rfl, rfl, ho, hb⟩ := hrel
    have hsz := hb.size
    by_cases hlt : k < 4
    · have hll : (leS k u).length = k := by simp [leS]
      obtain ⟨y, hy⟩ : ∃ y, y = u / 256 ^ k := ⟨_, rfl⟩
      have Y := Lib.hid hy
      have y0 := (Hyb.out k).1
      have y1 := (Hyb.out k).2
      rw [← hy] at y0 y1
      unfold B64 at y1
      simp only [← hy]
      clear hy
      go_wp2_with (at_builtin; refine wpList_append_b1 wr _ rfl (.tmp 87) (.tmp 91) 51 rfl i0 Try.underlying51 hi hz0 hz1 hz2 w.heap.size _ (leS k u) rfl ho rfl (by omega) hsz ?_; intro v' w2 hown hgrow)
      go_roundw
      case rel =>
        refine ⟨k + 1, by omega, by go_num, ?_, ?_, ownB_below ho hb hgrow hsz⟩
        · rw [← byt_step, ← Y.out]
        · have e : byt u k = y % 256 := by unfold byt; rw [← Y.out]
          rw [leS_step, e]; exact hown
      case measure => simp [intOf]; omega
    · obtain rfl : k = 4 := by omega
      have hc := Hcv.out _ _ _ _ ho
      have Hb := Lib.hid hb
      clear ho hb
      go_wp2
      go_ret2
      exact one_yes Hb.out ⟨n1, n2, .inr (.inr (.inl ⟨rfl, rfl, U1.out⟩))⟩ (by simp [formB, headB, contB])

set_option maxRecDepth 100000 in
set_option maxHeartbeats 1600000 in
theorem one_5b (num u : Int) (w : World) (n1 : 1 ≤ num) (n2 : num ≤ 536870911) (u1 : 4294967295 < u) : Calls Try.prog 18 #[(Fd.mk num 5 u ⟨#[]⟩).val] w (OneIs ⟨num, 5, u, ⟨#[]⟩⟩ w) := by
  unfold Fd.val
  have U1 := Lib.hid u1
  go_enter Try.func18, Try.ntmps18
  go_wp2_with fail
  refine (rvarint_w _ _ (by omega) (by unfold B64; omega)).mono ?_
  rintro e w1 ⟨rfl, hb1⟩
  have c2 : w1.cell? ⟨w.heap.size, 2, none⟩ = some (.int .u64 u) := (hb1.cell (by simp)).trans (cell_of_row _ _ 2 _ 24 (0, 0) (heap_alloc_new w _))
  have c1 : w1.cell? ⟨w.heap.size, 1, none⟩ = some (.int .i64 5) := (hb1.cell (by simp)).trans (cell_of_row _ _ 1 _ 24 (0, 0) (heap_alloc_new w _))
  have Hb1 := Lib.hid (((Below.refl w.heap.size w).alloc (Nat.le_refl _) _).trans (hb1.mono (by simp)))
  clear hb1
  go_wp2
  go_ret2
  exact one_no Hb1.out (fun h => by rcases h.2.2 with ⟨h, _⟩ | ⟨h, _⟩ | ⟨_, _, h⟩ | ⟨h, _⟩ <;> dsimp only at h <;> first | omega | (have := U1.out; omega))
theorem one_any (f : Fd) (w : World) (h : FdOk f) : Calls Try.prog 18 #[f.val] w (OneIs f w) := by
  obtain ⟨num, kind, u, b⟩ := f
  by_cases hbad : num < 1 ∨ 536870911 < num ∨ (kind ≠ 2 ∧ b ≠ ⟨#[]⟩) ∨ (kind = 2 ∧ u ≠ 0)
  · exact one_bad num kind u b w hbad
  have n1 : 1 ≤ num := by
    rcases Int.lt_or_le num 1 with h | h
    · exact absurd (.inl h) hbad
    · exact h
  have n2 : num ≤ 536870911 := by
    rcases Int.lt_or_le 536870911 num with h | h
    · exact absurd (.inr (.inl h)) hbad
    · exact h
  by_cases k2 : kind = 2
  · subst k2
    by_cases hu : u = 0
    · subst hu; exact one_2 num b w n1 n2 h.b
    · exact absurd (.inr (.inr (.inr ⟨rfl, hu⟩))) hbad
  have hb : b = ⟨#[]⟩ := by
    by_cases hb : b = ⟨#[]⟩
    · exact hb
    · exact absurd (.inr (.inr (.inl ⟨k2, hb⟩))) hbad
  subst hb
  by_cases k0 : kind = 0
  · subst k0; exact one_0 num u w n1 n2 h.u0 h.u1
  by_cases k1 : kind = 1
  · subst k1; exact one_1 num u w n1 n2 h.u0 h.u1
  by_cases k5 : kind = 5
  · subst k5
    rcases Int.lt_or_le 4294967295 u with hu | hu
    · exact one_5b num u w n1 n2 hu
    · exact one_5 num u w n1 n2 h.u0 hu
  exact one_o num kind u w n1 n2 k0 k1 k2 k5 h.k0 h.k1
end Go.Proofs.Ytkcnpnnflbibiaa

/- The walks: Write. -/
namespace Go.Proofs.Ytkcnpnnflbibiaa
open Go.RowKit

/-- The bytes of fields. -/
def textB : List Fd → ByteArray
  | [] => ⟨#[]⟩
  | f :: l => formB f ++ textB l
theorem app_nil (s : ByteArray) : s ++ ⟨#[]⟩ = s := by
  apply ByteArray.ext; apply Array.toList_inj.1
  rw [ByteArray.toList_data_append]; simp
theorem nil_app (s : ByteArray) : (⟨#[]⟩ : ByteArray) ++ s = s := by
  apply ByteArray.ext; apply Array.toList_inj.1
  rw [ByteArray.toList_data_append]; simp
theorem textB_snoc (l : List Fd) (f : Fd) : textB (l ++ [f]) = textB l ++ formB f := by
  induction l with
  | nil => simp [textB, app_nil, nil_app]
  | cons g l ih => simp [textB, ih, ByteArray.append_assoc]
def AllGood (l : List Fd) : Prop := ∀ f ∈ l, GoodF f
/-- What any fields are written as: three ways. -/
def WrIs (l : List Fd) (r : ByteArray) (err : Int) : Prop :=
  (¬ AllGood l ∧ r = ⟨#[]⟩ ∧ err = 1) ∨ (AllGood l ∧ 16777216 < (textB l).size ∧ r = ⟨#[]⟩ ∧ err = 6) ∨ (AllGood l ∧ (textB l).size ≤ 16777216 ∧ r = textB l ∧ err = 0)
theorem wrIs_any (l : List Fd) : ∃ r err, WrIs l r err := by
  by_cases h : AllGood l
  · by_cases hs : 16777216 < (textB l).size
    · exact ⟨_, _, .inr (.inl ⟨h, hs, rfl, rfl⟩)⟩
    · exact ⟨_, _, .inr (.inr ⟨h, by omega, rfl, rfl⟩)⟩
  · exact ⟨_, _, .inl ⟨h, rfl, rfl⟩⟩
theorem textB_take (l : List Fd) (k : Nat) (f : Fd) (h : l[k]? = some f) : textB (l.take (k + 1)) = textB (l.take k) ++ formB f := by
  rw [List.take_add_one, h, ← textB_snoc]; rfl
theorem textB_mono (l : List Fd) (k : Nat) : (textB (l.take k)).size ≤ (textB l).size := by
  induction l generalizing k with
  | nil => simp
  | cons f l ih =>
    cases k with
    | zero => exact Nat.zero_le _
    | succ k =>
      have := ih k
      simp only [List.take_succ_cons, textB, ByteArray.size_append]
      omega
theorem good_take {l : List Fd} {k : Nat} {f : Fd} (h : l[k]? = some f) (hg : AllGood (l.take k)) (hf : GoodF f) : AllGood (l.take (k + 1)) := by
  rw [List.take_add_one, h]
  intro g hm
  rcases List.mem_append.1 hm with hm | hm
  · exact hg g hm
  · simp at hm; subst hm; exact hf
/-- What a call leaves that hands back a text and an error. -/
def Txt (w : World) (r : ByteArray) (err : Int) (e : Ending) (w' : World) : Prop := e = .returned (.tuple #[.string r, .int .i64 err]) ∧ Below w.heap.size w w'
theorem txt_ret {w w' : World} {r c : ByteArray} {err x : Int} (hb : Below w.heap.size w w') (h1 : c = r) (h2 : x = err) : Txt w r err (.returned (.tuple #[.string c, .int .i64 x])) w' := by
  subst h1 h2; exact ⟨rfl, hb⟩
theorem good_kind {f : Fd} (h : GoodF f) : 0 ≤ f.kind ∧ f.kind ≤ 5 := by
  rcases h.2.2 with ⟨h, _⟩ | ⟨h, _⟩ | ⟨h, _⟩ | ⟨h, _⟩ <;> omega

set_option maxRecDepth 100000 in
set_option maxHeartbeats 1600000 in
theorem rwrite_any (l : List Fd) (A : Option Addr) (n c : Nat) (w : World) (B : Nat) (hl : Flds w B A n l) (hB : B ≤ w.heap.size) (hok : ∀ f ∈ l, FdOk f) (hsz : (textB l).size ≤ 4611686018427387904) (r : ByteArray) (err : Int) (h : WrIs l r err) :
    Calls Try.prog 8 #[.slice A n c] w (Txt w r err) := by
  obtain ⟨i0, hi, hz0, hz1, hz2⟩ := info_parts Try.info5
  have H := Lib.hid h
  have Hl := Lib.hid hl.len
  have hm : n ≤ 9223372036854775807 := hl.small
  have Hcv := Lib.hid (fun wx v s B (h : OwnS wx B v s) => run_text (P := Try.prog) wx 51 9 Try.underlying51 Try.underlying5 Try.underlying9 B v s h)
  clear h
  go_enter Try.func8, Try.ntmps8
  go_wp2_with fail
  go_loopw [4, 5, 6] (fun v b i wr => ∃ k : Nat, k ≤ n ∧ i = .int .i64 k ∧ AllGood (l.take k) ∧ Below w.heap.size w wr ∧ ∃ s, OwnS wr w.heap.size v s ∧ s.size ≤ 16777216 ∧ ((b = .bool false ∧ s = textB (l.take k)) ∨ (b = .bool true ∧ 16777216 < (textB (l.take k)).size))) (fun _ _ i _ => n - (intOf i).toNat)
  case atStart => exact ⟨0, by omega, rfl, fun f h => by simp at h, Below.refl _ _, _, ownS_nil _ _, by decide, .inl ⟨rfl, rfl⟩⟩
  case round =>
    obtain ⟨k, hk, rfl, hg, hb, s, ho, hs, hcase⟩ := hrel
    have z0 := hb.size
    have Hb := Lib.hid hb
    have Hg := Lib.hid hg
    have Ho := Lib.hid ho
    clear hb hg
    by_cases hlt : k < n
    · obtain ⟨b1, o1, rfl, hb1, hc1⟩ := hl.at_ (by omega)
      obtain ⟨f, hf⟩ : ∃ f, l[k]? = some f := ⟨_, List.getElem?_eq_getElem (by rw [Hl.out]; exact hlt)⟩
      obtain ⟨x0, x1, x2, x3⟩ := hc1 k f hf
      rw [Nat.mul_comm 4 k] at x0 x1 x2 x3
      have y0 := (Hb.out.cell (p := ⟨b1, o1 + k * 4, none⟩) (by dsimp only; omega)).trans x0
      have y1 := (Hb.out.cell (p := ⟨b1, o1 + k * 4 + 1, none⟩) (by dsimp only; omega)).trans x1
      have y2 := (Hb.out.cell (p := ⟨b1, o1 + k * 4 + 2, none⟩) (by dsimp only; omega)).trans x2
      have y3 := (Hb.out.cell (p := ⟨b1, o1 + k * 4 + 3, none⟩) (by dsimp only; omega)).trans x3
      have Hf := Lib.hid hf
      have fm : f ∈ l := List.mem_of_getElem? hf
      have Hfm := Lib.hid fm
      have T := one_any f wr (hok f fm)
      unfold Fd.val at T
      clear x0 x1 x2 x3 hf fm hc1
      have e1 : (textB (l.take (k + 1))).size = (textB (l.take k)).size + (formB f).size := by rw [textB_take l k f Hf.out, ByteArray.size_append]
      have e2 := textB_mono l (k + 1)
      have Hmeas : (intOf (.int .i64 (k : Int))).toNat = k := by simp [intOf]
      obtain ⟨A4, c4, rfl⟩ := Ho.out.form
      rcases hcase with ⟨rfl, rfl⟩ | ⟨rfl, hs2⟩
      · go_wp2_with fail
        refine T.mono ?_
        rintro e w1 ⟨⟨hgf, rfl⟩ | ⟨hgf, rfl⟩, hb1⟩
        · have hf62 : (formB f).size ≤ 4611686018427387904 := by omega
          have Hgf := Lib.hid hgf
          have Ho1 := Lib.hid (Ho.out.below hb1)
          have Hb1 := Lib.hid (Hb.out.trans (hb1.mono z0))
          have z1 := hb1.size
          clear hb1 hgf T
          by_cases hbig : 16777216 < (textB (l.take k)).size + (formB f).size
          · go_wp2
            go_roundw
            case rel => exact ⟨k + 1, by omega, by go_num, good_take Hf.out Hg.out Hgf.out, Hb1.out, _, Ho1.out, hs, .inr ⟨rfl, by omega⟩⟩
            case measure => simp [intOf]; omega
          · go_wp2_with (at_builtin; refine wpList_append_s _ rfl (.tmp 33) (.tmp 34) 51 9 rfl i0 Try.underlying51 Try.underlying9 hi hz0 hz1 hz2 w.heap.size _ (textB (l.take k)) rfl Ho1.out (formB f) rfl (by omega) (by omega) ?_; intro v' w2 ho2 hg2)
            go_roundw
            case rel => exact ⟨k + 1, by omega, by go_num, good_take Hf.out Hg.out Hgf.out, Ho1.out.grown Hb1.out hg2 (by omega), _, ho2, by rw [ByteArray.size_append]; omega, .inl ⟨rfl, (textB_take l k f Hf.out).symm⟩⟩
            case measure => simp [intOf]; omega
        · have He : Hid (r = ⟨#[]⟩ ∧ err = 1) := Lib.hid (by
            rcases H.out with ⟨_, h⟩ | ⟨h, _⟩ | ⟨h, _⟩
            · exact h
            · exact absurd (h f Hfm.out) hgf
            · exact absurd (h f Hfm.out) hgf)
          have Hb1 := Lib.hid (Hb.out.trans (hb1.mono z0))
          clear hb1 hgf T
          go_wp2
          go_ret2
          exact txt_ret Hb1.out He.out.1.symm He.out.2.symm
      · go_wp2_with fail
        refine T.mono ?_
        rintro e w1 ⟨⟨hgf, rfl⟩ | ⟨hgf, rfl⟩, hb1⟩
        · have hf62 : (formB f).size ≤ 4611686018427387904 := by omega
          have Hgf := Lib.hid hgf
          have Ho1 := Lib.hid (Ho.out.below hb1)
          have Hb1 := Lib.hid (Hb.out.trans (hb1.mono z0))
          clear hb1 hgf T
          go_wp2
          all_goals
            go_roundw
            case rel => exact ⟨k + 1, by omega, by go_num, good_take Hf.out Hg.out Hgf.out, Hb1.out, _, Ho1.out, hs, .inr ⟨rfl, by omega⟩⟩
            case measure => simp [intOf]; omega
        · have He : Hid (r = ⟨#[]⟩ ∧ err = 1) := Lib.hid (by
            rcases H.out with ⟨_, h⟩ | ⟨h, _⟩ | ⟨h, _⟩
            · exact h
            · exact absurd (h f Hfm.out) hgf
            · exact absurd (h f Hfm.out) hgf)
          have Hb1 := Lib.hid (Hb.out.trans (hb1.mono z0))
          clear hb1 hgf T
          go_wp2
          go_ret2
          exact txt_ret Hb1.out He.out.1.symm He.out.2.symm
    · obtain rfl : k = n := by omega
      have Ht : Hid (l.take k = l) := Lib.hid (by rw [← Hl.out, List.take_length])
      rcases hcase with ⟨rfl, rfl⟩ | ⟨rfl, hs2⟩
      · have hc := Hcv.out _ _ _ _ Ho.out
        have He : Hid (textB (l.take k) = r ∧ 0 = err) := Lib.hid (by
          have hg := Hg.out
          rw [Ht.out] at hs hg ⊢
          rcases H.out with ⟨h, _⟩ | ⟨_, h, _⟩ | ⟨_, _, h, h'⟩
          · exact absurd hg h
          · omega
          · exact ⟨h.symm, h'.symm⟩)
        obtain ⟨A4, c4, rfl⟩ := Ho.out.form
        go_wp2
        go_ret2
        exact txt_ret Hb.out He.out.1 He.out.2
      · have He : Hid ((⟨#[]⟩ : ByteArray) = r ∧ 6 = err) := Lib.hid (by
          have hg := Hg.out
          rw [Ht.out] at hs2 hg
          rcases H.out with ⟨h, _⟩ | ⟨_, _, h, h'⟩ | ⟨_, h, _⟩
          · exact absurd hg h
          · exact ⟨h.symm, h'.symm⟩
          · omega)
        go_wp2
        go_ret2
        exact txt_ret Hb.out He.out.1 He.out.2
end Go.Proofs.Ytkcnpnnflbibiaa
