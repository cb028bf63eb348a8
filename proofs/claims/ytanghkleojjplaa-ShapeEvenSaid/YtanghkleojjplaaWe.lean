/- The walks: coordinates. -/
import Derived.Test.YtanghkleojjplaaWc
import Derived.Deep.QuietTactic
import Derived.BigQuiet
namespace Go.Proofs.Ytanghkleojjplaa
open Go.RowKit

/-- What coordinates are: three ways. -/
def CoIs (l : List Int) (n : Int) (x : List Int) (err : Int) : Prop :=
  (Bad l err ∧ x = []) ∨ (Good l ∧ ¬ (0 ≤ n ∧ n < prod l) ∧ x = [] ∧ err = 1) ∨ (Good l ∧ (0 ≤ n ∧ n < prod l) ∧ x = co l n ∧ err = 0)
theorem coIs_any (l : List Int) (n : Int) : ∃ x err, CoIs l n x err := by
  rcases bad_ways l with h | ⟨err, _, h⟩
  · by_cases h1 : 0 ≤ n ∧ n < prod l
    · exact ⟨_, _, .inr (.inr ⟨h, h1, rfl, rfl⟩)⟩
    · exact ⟨_, _, .inr (.inl ⟨h, h1, rfl, rfl⟩)⟩
  · exact ⟨_, _, .inl ⟨h, rfl⟩⟩

set_option maxHeartbeats 800000 in
theorem coords_bad (w : World) (B : Nat) (A : Option Addr) (n c : Nat) (l : List Int) (h : Ints w B A n l) (m : Int) (err : Int) (hb : Bad l err) :
    Calls Try.prog 23 #[.slice A n c, .int .i64 m] w (Lst w [] err) := by
  refine hb.cases (P := fun err => Calls Try.prog 23 #[.slice A n c, .int .i64 m] w (Lst w [] err)) (fun hc => ?_) (fun hc => ?_)
  all_goals
    have Hb := Lib.hid hc
    clear hb hc
    go_enter Try.func23, Try.ntmps23
    go_wp2_with (go_at_call 12; refine (count_any w B A n c l h _ _ Hb.out).mono ?_; rintro e w1 ⟨rfl, rfl⟩)
    go_ret2
    exact lst_err _ _

set_option maxHeartbeats 800000 in
theorem coords_out (w : World) (B : Nat) (A : Option Addr) (n c : Nat) (l : List Int) (h : Ints w B A n l) (m : Int) (hg : Good l) (hm : ¬ (0 ≤ m ∧ m < prod l)) :
    Calls Try.prog 23 #[.slice A n c, .int .i64 m] w (Lst w [] 1) := by
  have Hb := Lib.hid (countIs_good hg)
  by_cases h1 : m < 0
  · clear hm hg
    go_enter Try.func23, Try.ntmps23
    go_wp2_with (go_at_call 12; refine (count_any w B A n c l h _ _ Hb.out).mono ?_; rintro e w1 ⟨rfl, rfl⟩)
    go_ret2
    exact lst_err _ _
  · have h2 : ¬ m < prod l := fun h2 => hm ⟨by omega, h2⟩
    clear hm hg
    go_enter Try.func23, Try.ntmps23
    go_wp2_with (go_at_call 12; refine (count_any w B A n c l h _ _ Hb.out).mono ?_; rintro e w1 ⟨rfl, rfl⟩)
    go_ret2
    exact lst_err _ _

set_option maxHeartbeats 1600000 in
theorem coords_in (w : World) (B : Nat) (A : Option Addr) (n c : Nat) (l : List Int) (h : Ints w B A n l) (hB : B ≤ w.heap.size) (m : Int) (hg : Good l) (h0 : 0 ≤ m) (h1 : m < prod l) :
    Calls Try.prog 23 #[.slice A n c, .int .i64 m] w (Lst w (co l m) 0) := by
  have Hb := Lib.hid (countIs_good hg)
  have h6 : n ≤ 6 := by rw [← h.len]; exact hg.2.1
  have hp := hg.1
  have Hl := Lib.hid h.len
  have Hg := Lib.hid hg
  clear hg
  have hmk := run_make_ints n (by omega)
  have hm16 : m < 65536 := by have := Hg.out.2.2; omega
  have h1' : ¬ prod l ≤ m := by omega
  have H1 := Lib.hid h1
  go_enter Try.func23, Try.ntmps23
  go_wp2_with (go_at_call 12; refine (count_any w B A n c l h _ _ Hb.out).mono ?_; rintro e w1 ⟨rfl, rfl⟩)
  refine (strides_good w B A n c l h hB Hg.out).mono ?_
  rintro e w1 ⟨As, ns, cs, rfl, hns, hown, hbel⟩
  have hs := hown.ints hns
  rw [st_length, Hl.out] at hns
  subst hns
  go_wp2_with fail
  clear hmk h1 h1'
  have hW : w.heap.size ≤ w1.heap.size := hbel.size
  go_loopw [1, 38] (fun v i wr => ∃ k : Nat, k ≤ ns ∧ i = .int .i64 k ∧ v = .int .i64 (m % prod (l.drop k)) ∧ Below w1.heap.size w1 wr ∧ Own wr w.heap.size (.slice (some ⟨w1.heap.size, 0, none⟩) ns ns) (coFore l m k)) (fun _ i _ => ns - (intOf i).toNat)
  case atStart =>
    refine ⟨0, Nat.zero_le _, rfl, ?_, (Below.refl _ _).alloc (Nat.le_refl _) _, ?_⟩
    · rw [List.drop_zero, Int.emod_eq_of_lt h0 (by first | assumption | exact H1.out)]
    · rw [coFore_zero, Hl.out]; exact own_zrow w1 _ ns hW h.small
  case round =>
    obtain ⟨k, hk, rfl, rfl, hb, ho⟩ := hrel
    by_cases hlt : k < ns
    · have hi := hs.below hb (Nat.le_refl _)
      obtain ⟨b, off, rfl, hb1, hc⟩ := hi.get (k := k) hlt
      rw [st_ix l k (by rw [Hl.out]; exact hlt)] at hc
      obtain ⟨r1, r2⟩ := ho.read (by rw [coFore_length l m k (by rw [Hl.out]; omega), Hl.out]) k hlt
      have hq := prod_pos (pos_drop hp (k + 1))
      have hq0 := prod_pos (pos_drop hp k)
      have m1 : 0 ≤ m % prod (l.drop k) := Int.emod_nonneg _ (by omega)
      have m2 : m % prod (l.drop k) ≤ 65536 := Int.le_trans (emod_le_self h0 hq0) (by omega)
      have m3 : 0 ≤ m % prod (l.drop k) / prod (l.drop (k + 1)) := Int.ediv_nonneg m1 (by omega)
      have m4 : m % prod (l.drop k) / prod (l.drop (k + 1)) ≤ 65536 := Int.le_trans (Int.ediv_le_self _ m1) m2
      have M5 := Lib.hid (mod_mod_prod l m k (by rw [Hl.out]; exact hlt))
      have m6 : 0 ≤ m % prod (l.drop k) % prod (l.drop (k + 1)) := Int.emod_nonneg _ (by omega)
      have m7 : m % prod (l.drop k) % prod (l.drop (k + 1)) ≤ 65536 := Int.le_trans (emod_le_self m1 hq) m2
      have Hrel := Lib.hid (show ∀ wr : World, Own wr w.heap.size (.slice (some ⟨w1.heap.size, 0, none⟩) ns ns) (coFore l m k) → Own (wr.setCell ⟨w1.heap.size, k, none⟩ (.int .i64 (m % prod (l.drop k) / prod (l.drop (k + 1))))) w.heap.size (.slice (some ⟨w1.heap.size, 0, none⟩) ns ns) (coFore l m (k + 1)) from fun wr ho => by
        have ho' := ho.set_ (by rw [coFore_length l m k (by rw [Hl.out]; omega), Hl.out]) k (coAt l m k)
        rw [coFore_succ l m k (by rw [Hl.out]; exact hlt)] at ho'
        exact ho')
      go_wp2
      go_roundw
      case rel => exact ⟨k + 1, by omega, by go_num, by rw [M5.out], hb.setCell (Nat.le_refl _) _, Hrel.out _ ho⟩
      case measure => simp [intOf]; omega
    · go_wp2
      go_ret2
      have e : k = l.length := by rw [Hl.out]; omega
      rw [e, coFore_all] at ho
      exact ⟨_, _, _, rfl, by rw [co_length, Hl.out], ho, hbel.trans (hb.mono hW)⟩

theorem coords_any (w : World) (B : Nat) (A : Option Addr) (n c : Nat) (l : List Int) (h : Ints w B A n l) (hB : B ≤ w.heap.size) (m : Int) (x : List Int) (err : Int) (hx : CoIs l m x err) :
    Calls Try.prog 23 #[.slice A n c, .int .i64 m] w (Lst w x err) := by
  rcases hx with ⟨hb, rfl⟩ | ⟨hg, hm, rfl, rfl⟩ | ⟨hg, ⟨h0, h1⟩, rfl, rfl⟩
  · exact coords_bad w B A n c l h m err hb
  · exact coords_out w B A n c l h m hg hm
  · exact coords_in w B A n c l h hB m hg h0 h1

set_option maxHeartbeats 800000 in
theorem rcoords_bad (w : World) (B : Nat) (A : Option Addr) (n c : Nat) (l : List Int) (h : Ints w B A n l) (m : Int) (err : Int) (hb : Bad l err) :
    Calls Try.prog 24 #[.slice A n c, .int .i64 m] w (Lst w [] err) := by
  refine hb.cases (P := fun err => Calls Try.prog 24 #[.slice A n c, .int .i64 m] w (Lst w [] err)) (fun hc => ?_) (fun hc => ?_)
  all_goals
    have Hb := Lib.hid hc
    clear hb hc
    go_enter Try.func24, Try.ntmps24
    go_wp2_with (go_at_call 13; refine (rcount_any w B A n c l h _ _ Hb.out).mono ?_; rintro e w1 ⟨rfl, rfl⟩)
    go_ret2
    exact lst_err _ _

set_option maxHeartbeats 800000 in
theorem rcoords_out (w : World) (B : Nat) (A : Option Addr) (n c : Nat) (l : List Int) (h : Ints w B A n l) (m : Int) (hg : Good l) (hm : ¬ (0 ≤ m ∧ m < prod l)) :
    Calls Try.prog 24 #[.slice A n c, .int .i64 m] w (Lst w [] 1) := by
  have Hb := Lib.hid (countIs_good hg)
  by_cases h1 : m < 0
  · clear hm hg
    go_enter Try.func24, Try.ntmps24
    go_wp2_with (go_at_call 13; refine (rcount_any w B A n c l h _ _ Hb.out).mono ?_; rintro e w1 ⟨rfl, rfl⟩)
    go_ret2
    exact lst_err _ _
  · have h2 : ¬ m < prod l := fun h2 => hm ⟨by omega, h2⟩
    clear hm hg
    go_enter Try.func24, Try.ntmps24
    go_wp2_with (go_at_call 13; refine (rcount_any w B A n c l h _ _ Hb.out).mono ?_; rintro e w1 ⟨rfl, rfl⟩)
    go_ret2
    exact lst_err _ _

theorem div_le_self {a b : Int} (ha : 0 ≤ a) : a / b ≤ a := Int.ediv_le_self _ ha

set_option maxHeartbeats 1600000 in
theorem rcoords_in (w : World) (B : Nat) (A : Option Addr) (n c : Nat) (l : List Int) (h : Ints w B A n l) (hB : B ≤ w.heap.size) (m : Int) (hg : Good l) (h0 : 0 ≤ m) (h1 : m < prod l) :
    Calls Try.prog 24 #[.slice A n c, .int .i64 m] w (Lst w (co l m) 0) := by
  have Hb := Lib.hid (countIs_good hg)
  have h6 : n ≤ 6 := by rw [← h.len]; exact hg.2.1
  have hp := hg.1
  have Hl := Lib.hid h.len
  have Hg := Lib.hid hg
  clear hg
  have hmk := run_make_ints n (by omega)
  have hm16 : m < 65536 := by have := Hg.out.2.2; omega
  have h1' : ¬ prod l ≤ m := by omega
  have Hn : Hid (m / prod (l.drop n) = m) := by
    show m / prod (l.drop n) = m
    rw [List.drop_of_length_le (by rw [Hl.out]; omega)]
    simp [prod]
  go_enter Try.func24, Try.ntmps24
  go_wp2_with (go_at_call 13; refine (rcount_any w B A n c l h _ _ Hb.out).mono ?_; rintro e w1 ⟨rfl, rfl⟩)
  clear hmk h1 h1'
  go_loopw [1, 9] (fun v i wr => ∃ k : Nat, k ≤ n ∧ i = .int .i64 ((k : Int) - 1) ∧ v = .int .i64 (m / prod (l.drop k)) ∧ Below w.heap.size w wr ∧ Own wr w.heap.size (.slice (some ⟨w.heap.size, 0, none⟩) n n) (coBack l m k)) (fun _ i _ => (intOf i + 1).toNat)
  case atStart =>
    refine ⟨n, Nat.le_refl _, rfl, by rw [Hn.out], (Below.refl _ _).alloc (Nat.le_refl _) _, ?_⟩
    have e := coBack_all l m
    rw [Hl.out] at e
    rw [e]; exact own_zrow w _ n (Nat.le_refl _) h.small
  case round =>
    obtain ⟨k, hk, rfl, rfl, hb, ho⟩ := hrel
    cases k with
    | zero =>
      go_wp2
      go_ret2
      rw [coBack_zero] at ho
      exact ⟨_, _, _, rfl, by rw [co_length, Hl.out], ho, hb⟩
    | succ k =>
      have hi := h.below (hb.mono hB) (Nat.le_refl _)
      obtain ⟨b, off, rfl, hb1, hc⟩ := hi.get (k := k) (by omega)
      obtain ⟨r1, r2⟩ := ho.read (by rw [coBack_length l m (k + 1) (by rw [Hl.out]; omega), Hl.out]) k (by omega)
      have hq := prod_pos (pos_drop hp (k + 1))
      have hd := pos_ix hp k (by rw [Hl.out]; omega)
      have m1 : 0 ≤ m / prod (l.drop (k + 1)) := Int.ediv_nonneg h0 (by omega)
      have m2 : m / prod (l.drop (k + 1)) ≤ 65536 := Int.le_trans (div_le_self h0) (by omega)
      have m3 : 0 ≤ m / prod (l.drop (k + 1)) / ix l k := Int.ediv_nonneg m1 (by omega)
      have m4 : m / prod (l.drop (k + 1)) / ix l k ≤ 65536 := Int.le_trans (div_le_self m1) m2
      have m6 : 0 ≤ m / prod (l.drop (k + 1)) % ix l k := Int.emod_nonneg _ (by omega)
      have m7 : m / prod (l.drop (k + 1)) % ix l k ≤ 65536 := Int.le_trans (emod_le_self m1 hd) m2
      have M5 := Lib.hid (left_step l m k (by rw [Hl.out]; omega) hp)
      have Hrel := Lib.hid (show ∀ wr : World, Own wr w.heap.size (.slice (some ⟨w.heap.size, 0, none⟩) n n) (coBack l m (k + 1)) → Own (wr.setCell ⟨w.heap.size, k, none⟩ (.int .i64 (m / prod (l.drop (k + 1)) % ix l k))) w.heap.size (.slice (some ⟨w.heap.size, 0, none⟩) n n) (coBack l m k) from fun wr ho => by
        have ho' := ho.set_ (by rw [coBack_length l m (k + 1) (by rw [Hl.out]; omega), Hl.out]) k (coAt l m k)
        rw [coBack_succ l m k (by rw [Hl.out]; omega), coAt_alt l m k (by rw [Hl.out]; omega) hp] at ho'
        exact ho')
      go_wp2
      go_roundw
      case rel => exact ⟨k, by omega, by go_num, by rw [M5.out], hb.setCell (Nat.le_refl _) _, Hrel.out _ ho⟩
      case measure => simp [intOf] <;> omega

theorem rcoords_any (w : World) (B : Nat) (A : Option Addr) (n c : Nat) (l : List Int) (h : Ints w B A n l) (hB : B ≤ w.heap.size) (m : Int) (x : List Int) (err : Int) (hx : CoIs l m x err) :
    Calls Try.prog 24 #[.slice A n c, .int .i64 m] w (Lst w x err) := by
  rcases hx with ⟨hb, rfl⟩ | ⟨hg, hm, rfl, rfl⟩ | ⟨hg, ⟨h0, h1⟩, rfl, rfl⟩
  · exact rcoords_bad w B A n c l h m err hb
  · exact rcoords_out w B A n c l h m hg hm
  · exact rcoords_in w B A n c l h hB m hg h0 h1
end Go.Proofs.Ytanghkleojjplaa
