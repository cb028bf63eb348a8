/- The walks: TakeVarint, both. -/
import Derived.Test.YtpnieegaemfffaaWf
namespace Go.Proofs.Ytpnieegaemfffaa
open Go.RowKit

/-- What is read at any place: three ways. -/
def TvIs (s : ByteArray) (at_ u n err : Int) : Prop :=
  ((at_ < 0 ∨ (s.size : Int) < at_) ∧ u = 0 ∧ n = 0 ∧ err = 1) ∨
  (∃ p : Nat, at_ = (p : Int) ∧ p ≤ s.size ∧ tk s p = none ∧ u = 0 ∧ n = 0 ∧ err = 3) ∨
  (∃ p m : Nat, at_ = (p : Int) ∧ p ≤ s.size ∧ tk s p = some (u, m) ∧ n = (m : Int) ∧ err = 0)
theorem tvIs_any (s : ByteArray) (at_ : Int) : ∃ u n err, TvIs s at_ u n err := by
  by_cases h : at_ < 0 ∨ (s.size : Int) < at_
  · exact ⟨_, _, _, .inl ⟨h, rfl, rfl, rfl⟩⟩
  · obtain ⟨p, rfl⟩ := Int.eq_ofNat_of_zero_le (show 0 ≤ at_ by omega)
    cases e : tk s p with
    | none => exact ⟨_, _, _, .inr (.inl ⟨p, rfl, by omega, e, rfl, rfl, rfl⟩)⟩
    | some r => exact ⟨_, _, _, .inr (.inr ⟨p, r.2, rfl, by omega, e, rfl, rfl⟩)⟩
theorem tv_ret {a b c x y z : Int} (h1 : a = x) (h2 : b = y) (h3 : c = z) : Ending.returned (.tuple #[.int .u64 a, .int .i64 b, .int .i64 c]) = .returned (.tuple #[.int .u64 x, .int .i64 y, .int .i64 z]) := by
  rw [h1, h2, h3]
theorem three_blocks (w : World) (a b c : Obj) : (((w.alloc a).alloc b).alloc c).heap[w.heap.size]? = some a ∧ (((w.alloc a).alloc b).alloc c).heap[w.heap.size + 1]? = some b ∧ (((w.alloc a).alloc b).alloc c).heap[w.heap.size + 1 + 1]? = some c ∧ (((w.alloc a).alloc b).alloc c).heap.size = w.heap.size + 3 := by
  have e1 : (w.alloc a).heap.size = w.heap.size + 1 := by simp
  have e2 : ((w.alloc a).alloc b).heap.size = w.heap.size + 1 + 1 := by simp
  have h1 := heap_alloc_new (w.alloc a) b
  have h2 := heap_alloc_new ((w.alloc a).alloc b) c
  rw [e1] at h1
  rw [e2] at h2
  exact ⟨(Below.heap_alloc _ c _ (by omega)).trans ((Below.heap_alloc _ b _ (by omega)).trans (heap_alloc_new w a)), (Below.heap_alloc _ c _ (by omega)).trans h1, h2, by simp⟩
theorem below_drewN {B : Nat} {a w : World} (h : Below B a w) (q : Nat) : Below B a (w.drewN q) := ⟨h.os, h.tape, h.output, h.size, h.block⟩
def TvPost (w : World) (u n err : Int) (e : Ending) (w' : World) : Prop := e = .returned (.tuple #[.int .u64 u, .int .i64 n, .int .i64 err]) ∧ Below w.heap.size w w'

set_option maxRecDepth 100000 in
set_option maxHeartbeats 800000 in
theorem rtake_any (s : ByteArray) (at_ u n err : Int) (w : World) (hs : s.size ≤ 140737488351232) (h : TvIs s at_ u n err) :
    Calls Try.prog 10 #[.string s, .int .i64 at_] w (TvPost w u n err) := by
  rcases h with ⟨ho, rfl, rfl, rfl⟩ | ⟨p, rfl, hp, htk, rfl, rfl, rfl⟩ | ⟨p, m, rfl, hp, htk, rfl, rfl⟩
  · rcases ho with ho | ho
    all_goals
      go_enter Try.func10, Try.ntmps10
      go_wp2
      go_ret3
      exact ⟨rfl, Below.refl _ _⟩
  · have Htk := Lib.hid htk
    clear htk
    go_enter Try.func10, Try.ntmps10
    go_wp2_with fail
    refine (take_any s p w hs hp).mono ?_
    rintro e w1 ⟨hcase, rfl⟩
    rcases hcase with ⟨u, n, h, _⟩ | ⟨_, rfl⟩
    · rw [Htk.out] at h; cases h
    · go_wp2
      go_ret3
      exact ⟨rfl, Below.refl _ _⟩
  · have Htk := Lib.hid htk
    clear htk
    go_enter Try.func10, Try.ntmps10
    go_wp2_with fail
    refine (take_any s p w hs hp).mono ?_
    rintro e w1 ⟨hcase, rfl⟩
    rcases hcase with ⟨u', n', h, rfl⟩ | ⟨h, rfl⟩
    · rw [Htk.out] at h
      simp only [Option.some.injEq, Prod.mk.injEq] at h
      obtain ⟨rfl, rfl⟩ := h
      go_wp2
      go_ret3
      exact ⟨rfl, Below.refl _ _⟩
    · rw [Htk.out] at h; cases h

set_option maxRecDepth 100000 in
set_option maxHeartbeats 1600000 in
theorem ptake_any (s : ByteArray) (at_ u n err : Int) (w : World) (hs : s.size ≤ 140737488351232) (h : TvIs s at_ u n err) :
    Calls Try.prog 9 #[.string s, .int .i64 at_] w (TvPost w u n err) := by
  by_cases ho : at_ < 0 ∨ (s.size : Int) < at_
  · have e : u = 0 ∧ n = 0 ∧ err = 1 := by
      rcases h with ⟨_, h⟩ | ⟨p, rfl, hp, _⟩ | ⟨p, m, rfl, hp, _⟩
      · exact h
      · omega
      · omega
    obtain ⟨rfl, rfl, rfl⟩ := e
    clear h
    rcases ho with ho | ho
    all_goals
      go_enter Try.func9, Try.ntmps9
      go_wp2
      go_ret3
      exact ⟨rfl, Below.refl _ _⟩
  · obtain ⟨p, rfl⟩ := Int.eq_ofNat_of_zero_le (show 0 ≤ at_ by omega)
    have hp : p ≤ s.size := by omega
    have H := Lib.hid h
    clear h ho
    go_enter Try.func9, Try.ntmps9
    go_wp2_with fail
    obtain ⟨k0, k1, k2, k3⟩ := three_blocks w (.cells #[.string s, .int .i64 (p : Int)] 45) (.cells #[.pointer (some ⟨w.heap.size, 0, none⟩)] 43) (.cells #[.int .u64 0] 22)
    generalize hW : ((w.alloc (.cells #[.string s, .int .i64 (p : Int)] 45)).alloc (.cells #[.pointer (some ⟨w.heap.size, 0, none⟩)] 43)).alloc (.cells #[.int .u64 0] 22) = W at k0 k1 k2 k3 ⊢
    have hbW : Below w.heap.size w W := by rw [← hW]; exact (((Below.refl _ _).alloc (Nat.le_refl _) _).alloc (by simp) _).alloc (by simp; omega) _
    clear hW
    have T1 := take1_any s p w.heap.size (w.heap.size + 1) (w.heap.size + 1 + 1) (W.alloc (.cells #[.int .i64 0] 23)) hs hp ((Below.heap_alloc _ _ _ (by omega)).trans k0) ((Below.heap_alloc _ _ _ (by omega)).trans k1) ((Below.heap_alloc _ _ _ (by omega)).trans k2) (by omega)
    refine (careful_22 _ _ W _ T1 ?_).mono ?_
    · rintro e w1 ⟨ho, hcase⟩
      refine ⟨?_, (ho.block _ (by simp) (by omega) (by omega)).trans (heap_alloc_new W _)⟩
      rcases hcase with ⟨_, _, _, rfl, _⟩ | ⟨_, rfl⟩
      · exact .inl rfl
      · exact .inr rfl
    rintro e w2 ⟨e1, w1, ⟨ho, hcase⟩, hend⟩
    have s1 : w.heap.size + 4 ≤ w1.heap.size := by have := ho.size; simp at this; omega
    have Hbel := Lib.hid (hbW.trans (((Below.refl _ _).alloc (by omega) _).trans (ho.below (Nat.le_refl _) (by omega) (by simp; omega))))
    have Hcbox := Lib.hid ((ho.block (w.heap.size + 1) (by simp; omega) (by omega) (by omega)).trans ((Below.heap_alloc _ _ _ (by omega)).trans k1))
    have z1 : W.heap.size ≤ w.heap.size + 3 := by omega
    have z2 : w.heap.size + 3 ≤ W.heap.size := by omega
    clear ho hbW T1 k0 k1 k2 k3
    rcases hend with ⟨rfl, rfl, rfl⟩ | ⟨rfl, rfl, rfl⟩
    · rcases hcase with ⟨u', m, htk, _, hcur, hu⟩ | ⟨_, h⟩
      · have e3 : u' = u ∧ (m : Int) = n ∧ 0 = err := by
          rcases H.out with ⟨h, _⟩ | ⟨q, h, _, h2, _⟩ | ⟨q, m', h, _, h2, rfl, rfl⟩
          · omega
          · rw [show q = p by omega, htk] at h2; cases h2
          · rw [show q = p by omega, htk] at h2
            simp only [Option.some.injEq, Prod.mk.injEq] at h2
            exact ⟨h2.1, by rw [h2.2], rfl⟩
        have E3 := Lib.hid e3
        have c0 : (w1.setCell ⟨W.heap.size, 0, none⟩ (.int .i64 0)).cell? ⟨w.heap.size + 1 + 1, 0, none⟩ = some (.int .u64 u') := (World.cell?_setCell_other _ _ _ _ (by first | (simp; done) | (simp; omega))).trans (one_cell hu).1
        have c1 : (w1.setCell ⟨W.heap.size, 0, none⟩ (.int .i64 0)).cell? ⟨w.heap.size + 1, 0, none⟩ = some (.pointer (some ⟨w.heap.size, 0, none⟩)) := (World.cell?_setCell_other _ _ _ _ (by first | (simp; done) | (simp; omega))).trans (one_cell Hcbox.out).1
        have c2 : (w1.setCell ⟨W.heap.size, 0, none⟩ (.int .i64 0)).cell? ⟨w.heap.size, 1, none⟩ = some (.int .i64 (m : Int)) := (World.cell?_setCell_other _ _ _ _ (by first | (simp; done) | (simp; omega))).trans hcur.at_
        clear htk hcur hu e3
        go_wp2
        go_quiet (fail)
        go_wp2
        go_ret3
        exact ⟨tv_ret E3.out.1 E3.out.2.1 E3.out.2.2, below_drewN (Hbel.out.setCell (by dsimp only; omega) _) _⟩
      · cases h
    · rcases hcase with ⟨_, _, _, h, _⟩ | ⟨htk, _⟩
      · cases h
      · have e3 : 0 = u ∧ 0 = n ∧ 3 = err := by
          rcases H.out with ⟨h, _⟩ | ⟨q, h, _, h2, rfl, rfl, rfl⟩ | ⟨q, m', h, _, h2, rfl, rfl⟩
          · omega
          · exact ⟨rfl, rfl, rfl⟩
          · rw [show q = p by omega, htk] at h2; cases h2
        have E3 := Lib.hid e3
        clear htk e3
        go_wp2
        go_ret3
        exact ⟨tv_ret E3.out.1 E3.out.2.1 E3.out.2.2, (Hbel.out.alloc (by omega) _).setCell (by dsimp only; omega) _⟩
end Go.Proofs.Ytpnieegaemfffaa
