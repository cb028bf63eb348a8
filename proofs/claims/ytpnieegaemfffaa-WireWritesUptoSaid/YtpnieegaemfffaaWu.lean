/- The walks: what stands behind a field's head, the rest. -/
import Derived.Test.YtpnieegaemfffaaWt
import Derived.Deep.RegionLaw
import Derived.BigRegion
namespace Go.Proofs.Ytpnieegaemfffaa
open Go.RowKit

set_option maxRecDepth 100000 in
set_option maxHeartbeats 1600000 in
theorem content_5 (num u : Int) (b : ByteArray) (w : World) (h : FdOk ⟨num, 5, u, b⟩) : Calls Try.prog 29 #[(Fd.mk num 5 u b).val] w (ContIs ⟨num, 5, u, b⟩ w) := by
  have h0 := h.u0
  have H1 := Lib.hid h.u1
  dsimp only at h0
  clear h
  unfold Fd.val
  have T : ∀ w, Calls Try.prog 35 #[.int .u64 u, .int .i64 4] w fun e w' => e = .returned (.string (strOfNums (leS 4 u))) ∧ Below w.heap.size w w' := fun w => fixed_w u 4 (by omega) w h0 H1.out
  have HT := Lib.hid T
  clear T
  rcases num_cases num b with hn | hn | ⟨hn1, hn2, hb⟩ | ⟨hn1, hn2, rfl⟩
  · go_enter Try.func29, Try.ntmps29
    go_wp2_with fail
    have k0 : (w.alloc (.cells #[.int .i64 num, .int .i64 5, .int .u64 u, .string b] 35)).cell? ⟨w.heap.size, 2, none⟩ = some (.int .u64 u) := cell_of_row _ _ 2 _ 35 (0, 0) (heap_alloc_new w _)
    have k1 : Below w.heap.size w (w.alloc (.cells #[.int .i64 num, .int .i64 5, .int .u64 u, .string b] 35)) := (Below.refl _ _).alloc (Nat.le_refl _) _
    have k2 : w.heap.size < (w.alloc (.cells #[.int .i64 num, .int .i64 5, .int .u64 u, .string b] 35)).heap.size := by simp
    generalize w.alloc (.cells #[.int .i64 num, .int .i64 5, .int .u64 u, .string b] 35) = W0 at k0 k1 k2 ⊢
    first | (go_region_law (first
      | (go_simp; go_at_call 35; refine (HT.out _).mono ?_; rintro e w1 ⟨rfl, hb1⟩; have j0 : w1.cell? ⟨w.heap.size, 2, none⟩ = some (.int .u64 u) := (hb1.cell k2).trans k0; have J1 := Lib.hid (Below.trans (below_drewN k1 1) (hb1.mono (Nat.le_of_lt k2))); clear hb1; dsimp only))) | fail
    all_goals
      go_wp2
      go_ret2
      exact cont_ret J1.out (fun h => by cases h) (fun _ h => by have := h.1; dsimp only at this; omega)

  · go_enter Try.func29, Try.ntmps29
    go_wp2_with fail
    have k0 : (w.alloc (.cells #[.int .i64 num, .int .i64 5, .int .u64 u, .string b] 35)).cell? ⟨w.heap.size, 2, none⟩ = some (.int .u64 u) := cell_of_row _ _ 2 _ 35 (0, 0) (heap_alloc_new w _)
    have k1 : Below w.heap.size w (w.alloc (.cells #[.int .i64 num, .int .i64 5, .int .u64 u, .string b] 35)) := (Below.refl _ _).alloc (Nat.le_refl _) _
    have k2 : w.heap.size < (w.alloc (.cells #[.int .i64 num, .int .i64 5, .int .u64 u, .string b] 35)).heap.size := by simp
    generalize w.alloc (.cells #[.int .i64 num, .int .i64 5, .int .u64 u, .string b] 35) = W0 at k0 k1 k2 ⊢
    first | (go_region_law (first
      | (go_simp; go_at_call 35; refine (HT.out _).mono ?_; rintro e w1 ⟨rfl, hb1⟩; have j0 : w1.cell? ⟨w.heap.size, 2, none⟩ = some (.int .u64 u) := (hb1.cell k2).trans k0; have J1 := Lib.hid (Below.trans (below_drewN k1 1) (hb1.mono (Nat.le_of_lt k2))); clear hb1; dsimp only))) | fail
    all_goals
      go_wp2
      go_ret2
      exact cont_ret J1.out (fun h => by cases h) (fun _ h => by have := h.2.1; dsimp only at this; omega)

  · have he := empty_ne hb
    have Hb := Lib.hid hb
    clear hb
    go_enter Try.func29, Try.ntmps29
    go_wp2_with fail
    have k0 : (w.alloc (.cells #[.int .i64 num, .int .i64 5, .int .u64 u, .string b] 35)).cell? ⟨w.heap.size, 2, none⟩ = some (.int .u64 u) := cell_of_row _ _ 2 _ 35 (0, 0) (heap_alloc_new w _)
    have k1 : Below w.heap.size w (w.alloc (.cells #[.int .i64 num, .int .i64 5, .int .u64 u, .string b] 35)) := (Below.refl _ _).alloc (Nat.le_refl _) _
    have k2 : w.heap.size < (w.alloc (.cells #[.int .i64 num, .int .i64 5, .int .u64 u, .string b] 35)).heap.size := by simp
    generalize w.alloc (.cells #[.int .i64 num, .int .i64 5, .int .u64 u, .string b] 35) = W0 at k0 k1 k2 ⊢
    first | (go_region_law (first
      | (go_simp; go_at_call 35; refine (HT.out _).mono ?_; rintro e w1 ⟨rfl, hb1⟩; have j0 : w1.cell? ⟨w.heap.size, 2, none⟩ = some (.int .u64 u) := (hb1.cell k2).trans k0; have J1 := Lib.hid (Below.trans (below_drewN k1 1) (hb1.mono (Nat.le_of_lt k2))); clear hb1; dsimp only))) | fail
    all_goals
      go_wp2
      go_ret2
      exact cont_ret J1.out (fun h => by cases h) (fun _ h => by rcases h.2.2 with ⟨h, h2⟩ | ⟨h, h2⟩ | ⟨h, h2, _⟩ | ⟨h, _⟩ <;> first | exact Hb.out h2 | (dsimp only at h; omega))

  · go_enter Try.func29, Try.ntmps29
    go_wp2_with fail
    have k0 : (w.alloc (.cells #[.int .i64 num, .int .i64 5, .int .u64 u, .string ⟨#[]⟩] 35)).cell? ⟨w.heap.size, 2, none⟩ = some (.int .u64 u) := cell_of_row _ _ 2 _ 35 (0, 0) (heap_alloc_new w _)
    have k1 : Below w.heap.size w (w.alloc (.cells #[.int .i64 num, .int .i64 5, .int .u64 u, .string ⟨#[]⟩] 35)) := (Below.refl _ _).alloc (Nat.le_refl _) _
    have k2 : w.heap.size < (w.alloc (.cells #[.int .i64 num, .int .i64 5, .int .u64 u, .string ⟨#[]⟩] 35)).heap.size := by simp
    generalize w.alloc (.cells #[.int .i64 num, .int .i64 5, .int .u64 u, .string ⟨#[]⟩] 35) = W0 at k0 k1 k2 ⊢
    first | (go_region_law (first
      | (go_simp; go_at_call 35; refine (HT.out _).mono ?_; rintro e w1 ⟨rfl, hb1⟩; have j0 : w1.cell? ⟨w.heap.size, 2, none⟩ = some (.int .u64 u) := (hb1.cell k2).trans k0; have J1 := Lib.hid (Below.trans (below_drewN k1 1) (hb1.mono (Nat.le_of_lt k2))); clear hb1; dsimp only))) | fail
    all_goals
      go_wp2
      go_ret2
      refine cont_ret J1.out (fun h => ?_) (fun h => ?_)
      · have h2 : u / 4294967296 = 0 := by simpa using h
        exact ⟨⟨hn1, hn2, .inr (.inr (.inl ⟨rfl, rfl, by dsimp only; omega⟩))⟩, rfl⟩
      · intro hg
        have h2 : ¬ u / 4294967296 = 0 := by simpa using h
        rcases hg.2.2 with ⟨h1, _⟩ | ⟨h1, _⟩ | ⟨_, _, h1⟩ | ⟨h1, _⟩ <;> (dsimp only at h1; omega)

end Go.Proofs.Ytpnieegaemfffaa
