/- The walks: the program's Fields. -/
import Derived.Test.YtpnieegaemfffaaWj
namespace Go.Proofs.Ytpnieegaemfffaa
open Go.RowKit

theorem four_blocks (w : World) (a b c d : Obj) :
    ((((w.alloc a).alloc b).alloc c).alloc d).heap.size = w.heap.size + 4 ∧ ((((w.alloc a).alloc b).alloc c).alloc d).heap[w.heap.size]? = some a ∧ ((((w.alloc a).alloc b).alloc c).alloc d).heap[w.heap.size + 1]? = some b ∧
      ((((w.alloc a).alloc b).alloc c).alloc d).heap[w.heap.size + 1 + 1]? = some c ∧ ((((w.alloc a).alloc b).alloc c).alloc d).heap[w.heap.size + 1 + 1 + 1]? = some d := by
  obtain ⟨k1, k2, k3, k0⟩ := three_blocks w a b c
  have hd := heap_alloc_new (((w.alloc a).alloc b).alloc c) d
  refine ⟨by simp, (Below.heap_alloc _ _ _ (by omega)).trans k1, (Below.heap_alloc _ _ _ (by omega)).trans k2, (Below.heap_alloc _ _ _ (by omega)).trans k3, ?_⟩
  rw [k0] at hd
  exact hd

set_option maxRecDepth 100000 in
set_option maxHeartbeats 1600000 in
theorem pfields_any (s : ByteArray) (w : World) (hs : s.size ≤ 140737488351232) (l : List Fd) (err : Int) (h : FdsIs s l err) :
    Calls Try.prog 14 #[.string s] w (LstF w l err) := by
  by_cases hbig : 16777216 < s.size
  · have e : l = [] ∧ err = 6 := by
      rcases h with ⟨_, h⟩ | ⟨h, _⟩ | ⟨h, _⟩
      · exact h
      · omega
      · omega
    obtain ⟨rfl, rfl⟩ := e
    clear h
    go_enter Try.func14, Try.ntmps14
    go_wp2
    go_ret2
    exact lstF_ret (ownF_nil _ _) rfl ((Below.refl _ _).alloc (Nat.le_refl _) _) rfl rfl
  · have H := Lib.hid h
    clear h
    go_enter Try.func14, Try.ntmps14
    go_wp2_with fail
    obtain ⟨k0, kS, kN, kC, kM⟩ := four_blocks w (.cells #[.string s] 9) (.cells #[.string s, .int .i64 0] 45) (.cells #[.pointer (some ⟨w.heap.size + 1, 0, none⟩)] 43) (.cells #[.slice none 0 0] 29)
    generalize hW : (((w.alloc (.cells #[.string s] 9)).alloc (.cells #[.string s, .int .i64 0] 45)).alloc (.cells #[.pointer (some ⟨w.heap.size + 1, 0, none⟩)] 43)).alloc (.cells #[.slice none 0 0] 29) = W at k0 kS kN kC kM ⊢
    have hbW : Below w.heap.size w W := by rw [← hW]; exact ((((Below.refl _ _).alloc (Nat.le_refl _) _).alloc (by simp) _).alloc (by simp; omega) _).alloc (by simp; omega) _
    clear hW
    have T1 := fields1_any s (w.heap.size + 1) (w.heap.size + 1 + 1) w.heap.size (w.heap.size + 1 + 1 + 1) (W.alloc (.cells #[.int .i64 0] 23)) (by omega) ((Below.heap_alloc _ _ _ (by omega)).trans kN) ((Below.heap_alloc _ _ _ (by omega)).trans kC) ((Below.heap_alloc _ _ _ (by omega)).trans kS) ((Below.heap_alloc _ _ _ (by omega)).trans kM) (by omega) (by omega) (by omega)
    refine (careful_25 _ _ _ W _ T1 ?_).mono ?_
    · rintro e w1 ⟨ho, hcase⟩
      refine ⟨?_, (ho.block _ (by simp) (by omega) (by omega)).trans (heap_alloc_new W _)⟩
      rcases hcase with ⟨_, _, _, rfl, _⟩ | ⟨_, rfl⟩
      · exact .inl rfl
      · exact .inr rfl
    rintro e w2 ⟨e1, w1, ⟨ho, hcase⟩, hend⟩
    have s1 : w.heap.size + 5 ≤ w1.heap.size := by have := ho.size; simp at this; omega
    have Hbel := Lib.hid (hbW.trans (((Below.refl _ _).alloc (by omega) _).trans (ho.below (by omega) (by omega) (by simp; omega))))
    have z1 : W.heap.size ≤ w.heap.size + 4 := by omega
    have z2 : w.heap.size + 4 ≤ W.heap.size := by omega
    clear ho hbW T1 k0 kS kN kC kM
    rcases hend with ⟨rfl, rfl, rfl⟩ | ⟨rfl, rfl, rfl⟩
    · rcases hcase with ⟨l', v, hl, _, hv, hown⟩ | ⟨_, h⟩
      · have e3 : l' = l ∧ 0 = err := by
          rcases H.out with ⟨h, _⟩ | ⟨_, h2, _⟩ | ⟨_, h2, rfl⟩
          · omega
          · rw [hl] at h2; cases h2
          · rw [hl] at h2; cases h2; exact ⟨rfl, rfl⟩
        have E3 := Lib.hid e3
        have c0 : (w1.setCell ⟨W.heap.size, 0, none⟩ (.int .i64 0)).cell? ⟨w.heap.size + 1 + 1 + 1, 0, none⟩ = some v := (World.cell?_setCell_other _ _ _ _ (by first | (simp; done) | (simp; omega))).trans (one_cell hv).1
        have Hown := Lib.hid ((hown.lower (B' := w.heap.size) (by simp; omega)))
        have Hown2 := Lib.hid (OwnF.set_far (k := W.heap.size) (i := 0) hown (by simp) (.int .i64 0))
        obtain ⟨A, c, rfl⟩ := hown.form
        clear hl hv hown e3
        go_wp2
        go_ret2
        exact lstF_ret (Hown2.out.lower (by simp; omega)) rfl (Hbel.out.setCell (by dsimp only; omega) _) E3.out.1 E3.out.2
      · cases h
    · rcases hcase with ⟨_, _, _, h, _⟩ | ⟨hn, _⟩
      · cases h
      · have e3 : ([] : List Fd) = l ∧ 3 = err := by
          rcases H.out with ⟨h, _⟩ | ⟨_, _, rfl, rfl⟩ | ⟨_, h2, _⟩
          · omega
          · exact ⟨rfl, rfl⟩
          · rw [hn] at h2; cases h2
        have E3 := Lib.hid e3
        clear hn e3
        go_wp2
        go_ret2
        exact lstF_ret (ownF_nil _ _) rfl ((Hbel.out.alloc (by omega) _).setCell (by dsimp only; omega) _) E3.out.1 E3.out.2
end Go.Proofs.Ytpnieegaemfffaa
