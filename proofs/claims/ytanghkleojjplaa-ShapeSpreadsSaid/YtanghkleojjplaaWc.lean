/- The walks: strides. -/
import Derived.Test.YtanghkleojjplaaWa
namespace Go.Proofs.Ytanghkleojjplaa
open Go.RowKit

theorem lst_err (w : World) (err : Int) : Lst w [] err (.returned (.tuple #[.slice none 0 0, .int .i64 err])) w := ⟨_, _, _, rfl, rfl, own_nil _ _, Below.refl _ _⟩
theorem good_small {l : List Int} (h : Good l) : l.length ≤ 6 := h.2.1

set_option maxHeartbeats 800000 in
theorem strides_good (w : World) (B : Nat) (A : Option Addr) (n c : Nat) (l : List Int) (h : Ints w B A n l) (hB : B ≤ w.heap.size) (hg : Good l) :
    Calls Try.prog 14 #[.slice A n c] w (Lst w (st l) 0) := by
  have h6 : n ≤ 6 := by rw [← h.len]; exact hg.2.1
  have hp := hg.1
  have Hl := Lib.hid h.len
  have Hg := Lib.hid hg
  clear hg
  have hmk := run_make_ints n (by omega)
  go_enter Try.func14, Try.ntmps14
  go_wp2_with (go_at_call 12; refine (count_any w B A n c l h _ _ (countIs_good Hg.out)).mono ?_; rintro e w' ⟨rfl, rfl⟩)
  clear hmk
  go_loopw [7, 23] (fun p i wr => ∃ k : Nat, k ≤ n ∧ i = .int .i64 k ∧ p = .int .i64 (prod (l.drop (n - k))) ∧ Below w.heap.size w wr ∧ Own wr w.heap.size (.slice (some ⟨w.heap.size, 0, none⟩) n n) (stBack l k)) (fun _ i _ => n - (intOf i).toNat)
  case atStart =>
    refine ⟨0, Nat.zero_le _, rfl, ?_, (Below.refl _ _).alloc (Nat.le_refl _) _, ?_⟩
    · rw [List.drop_of_length_le (by rw [Hl.out]; omega)]; rfl
    · rw [stBack_zero, Hl.out]; exact own_zrow w _ n (Nat.le_refl _) h.small
  case round =>
    obtain ⟨k, hk, rfl, rfl, hb, ho⟩ := hrel
    by_cases hlt : k < n
    · have hi := h.below (hb.mono hB) (Nat.le_refl _)
      obtain ⟨b, off, rfl, hb1, hc⟩ := hi.get (k := n - 1 - k) (by omega)
      obtain ⟨r1, r2⟩ := ho.read (by rw [stBack_length l k (by rw [Hl.out]; omega), Hl.out]) (n - 1 - k) (by omega)
      have Hs := Lib.hid (show prod (l.drop (n - k)) * ix l (n - 1 - k) = prod (l.drop (n - (k + 1))) by
        have := prod_drop_succ l (n - 1 - k) (by rw [Hl.out]; omega)
        rw [show n - 1 - k + 1 = n - k by omega] at this
        rw [show n - (k + 1) = n - 1 - k by omega, this, Int.mul_comm])
      have hs1 : prod (l.drop (n - k)) * ix l (n - 1 - k) ≤ 65536 := by rw [Hs.out]; have := prod_drop_le hp (n - (k + 1)); have := Hg.out.2.2; omega
      have hs2 : 1 ≤ prod (l.drop (n - k)) * ix l (n - 1 - k) := by rw [Hs.out]; exact prod_pos (pos_drop hp _)
      go_wp2
      go_roundw
      case rel =>
        refine ⟨k + 1, by omega, by go_num, by rw [Hs.out], hb.setCell (Nat.le_refl _) _, ?_⟩
        have ho' := ho.set_ (by rw [stBack_length l k (by rw [Hl.out]; omega), Hl.out]) (n - 1 - k) (prod (l.drop (n - k)))
        have e := stBack_succ l k (by rw [Hl.out]; exact hlt)
        rw [Hl.out] at e
        rw [e] at ho'
        exact ho'
      case measure => simp [intOf]; omega
    · go_wp2
      go_ret2
      have e : k = l.length := by rw [Hl.out]; omega
      rw [e, stBack_all] at ho
      exact ⟨_, _, _, rfl, by rw [st_length, Hl.out], ho, hb⟩

/-- A list of dimensions that may not be: which error. -/
def Bad (l : List Int) (err : Int) : Prop := CountIs l 0 err ∧ (err = 4 ∨ err = 6)
theorem bad_ways (l : List Int) : Good l ∨ ∃ err, ¬ Good l ∧ Bad l err := by
  rcases count_ways l with ⟨h, _⟩ | ⟨h, _, hc⟩ | ⟨h, _, _, hc⟩
  · exact .inl h
  · exact .inr ⟨4, h, hc, .inl rfl⟩
  · exact .inr ⟨6, h, hc, .inr rfl⟩
theorem Bad.cases {l : List Int} {err : Int} {P : Int → Prop} (h : Bad l err) (h4 : CountIs l 0 4 → P 4) (h6 : CountIs l 0 6 → P 6) : P err := by
  obtain ⟨hc, rfl | rfl⟩ := h
  · exact h4 hc
  · exact h6 hc

theorem bad_not_good' {l : List Int} {err : Int} (h : Bad l err) : ¬ Good l := fun g => by
  have e := (h.1.same (countIs_good g)).2
  rcases h.2 with h | h <;> omega
set_option maxHeartbeats 800000 in
theorem strides_bad (w : World) (B : Nat) (A : Option Addr) (n c : Nat) (l : List Int) (h : Ints w B A n l) (err : Int) (hb : Bad l err) :
    Calls Try.prog 14 #[.slice A n c] w (Lst w [] err) := by
  refine hb.cases (P := fun err => Calls Try.prog 14 #[.slice A n c] w (Lst w [] err)) (fun hc => ?_) (fun hc => ?_)
  all_goals
    clear hb
    have Hc := Lib.hid hc
    clear hc
    go_enter Try.func14, Try.ntmps14
    go_wp2_with (go_at_call 12; refine (count_any w B A n c l h _ _ Hc.out).mono ?_; rintro e w' ⟨rfl, rfl⟩)
    go_ret2
    exact lst_err _ _

set_option maxHeartbeats 800000 in
theorem rstrides_bad (w : World) (B : Nat) (A : Option Addr) (n c : Nat) (l : List Int) (h : Ints w B A n l) (err : Int) (hb : Bad l err) :
    Calls Try.prog 15 #[.slice A n c] w (Lst w [] err) := by
  refine hb.cases (P := fun err => Calls Try.prog 15 #[.slice A n c] w (Lst w [] err)) (fun hc => ?_) (fun hc => ?_)
  all_goals
    clear hb
    have Hc := Lib.hid hc
    clear hc
    go_enter Try.func15, Try.ntmps15
    go_wp2_with (go_at_call 13; refine (rcount_any w B A n c l h _ _ Hc.out).mono ?_; rintro e w' ⟨rfl, rfl⟩)
    go_ret2
    exact lst_err _ _

set_option maxHeartbeats 800000 in
theorem rstrides_good (w : World) (B : Nat) (A : Option Addr) (n c : Nat) (l : List Int) (h : Ints w B A n l) (hnc : n ≤ c) (hB : B ≤ w.heap.size) (hg : Good l) :
    Calls Try.prog 15 #[.slice A n c] w (Lst w (st l) 0) := by
  have h6 : n ≤ 6 := by rw [← h.len]; exact hg.2.1
  have Hl := Lib.hid h.len
  have Hg := Lib.hid hg
  clear hg
  have hmk := run_make_ints n (by omega)
  go_enter Try.func15, Try.ntmps15
  go_wp2_with (go_at_call 13; refine (rcount_any w B A n c l h _ _ (countIs_good Hg.out)).mono ?_; rintro e w' ⟨rfl, rfl⟩)
  clear hmk
  go_loopw [7] (fun i wr => ∃ k : Nat, k ≤ n ∧ i = .int .i64 k ∧ Below w.heap.size w wr ∧ Own wr w.heap.size (.slice (some ⟨w.heap.size, 0, none⟩) n n) (stFore l k)) (fun i _ => n - (intOf i).toNat)
  case atStart =>
    refine ⟨0, Nat.zero_le _, rfl, (Below.refl _ _).alloc (Nat.le_refl _) _, ?_⟩
    rw [stFore_zero, Hl.out]; exact own_zrow w _ n (Nat.le_refl _) h.small
  case round =>
    obtain ⟨k, hk, rfl, hb, ho⟩ := hrel
    by_cases hlt : k < n
    · have hi := h.below (hb.mono hB) (Nat.le_refl _)
      obtain ⟨r1, r2⟩ := ho.read (by rw [stFore_length l k (by rw [Hl.out]; omega), Hl.out]) k (by omega)
      obtain ⟨b, off, rfl, hb1, _⟩ := hi.get (k := k) hlt
      have hcut := hi.cut (k + 1)
      have hend : ∀ A', n ≤ k + 1 → Ints wr B A' 0 (l.drop (k + 1)) := fun A' hk => by
        have := hi.end_ (A' := A') (k + 1) hk
        rwa [show n - (k + 1) = 0 by omega] at this
      have Hcut := Lib.hid hcut
      have Hend := Lib.hid hend
      clear hcut hend
      have Hcc := Lib.hid (countIs_good (good_drop Hg.out (k + 1)))
      have Hrel := Lib.hid (show ∀ wr : World, Own wr w.heap.size (.slice (some ⟨w.heap.size, 0, none⟩) n n) (stFore l k) → Own (wr.setCell ⟨w.heap.size, k, none⟩ (.int .i64 (prod (l.drop (k + 1))))) w.heap.size (.slice (some ⟨w.heap.size, 0, none⟩) n n) (stFore l (k + 1)) from fun wr ho => by
        have ho' := ho.set_ (by rw [stFore_length l k (by rw [Hl.out]; omega), Hl.out]) k (prod (l.drop (k + 1)))
        rw [stFore_succ l k (by rw [Hl.out]; exact hlt)] at ho'
        exact ho')
      by_cases hck : c = k + 1
      · have hnk : n ≤ k + 1 := by omega
        subst hck
        go_wp2_with (go_at_call 13; refine (rcount_any _ B _ _ _ _ (Hend.out _ hnk) _ _ Hcc.out).mono ?_; rintro e w' ⟨rfl, rfl⟩)
        go_roundw
        case rel => exact ⟨k + 1, by omega, by go_num, hb.setCell (Nat.le_refl _) _, Hrel.out _ ho⟩
        case measure => simp [intOf]; omega
      · go_wp2_with (go_at_call 13; refine (rcount_any _ B _ _ _ _ Hcut.out _ _ Hcc.out).mono ?_; rintro e w' ⟨rfl, rfl⟩)
        go_roundw
        case rel => exact ⟨k + 1, by omega, by go_num, hb.setCell (Nat.le_refl _) _, Hrel.out _ ho⟩
        case measure => simp [intOf]; omega
    · go_wp2
      go_ret2
      have e : k = l.length := by rw [Hl.out]; omega
      rw [e, stFore_all] at ho
      exact ⟨_, _, _, rfl, by rw [st_length, Hl.out], ho, hb⟩
end Go.Proofs.Ytanghkleojjplaa
