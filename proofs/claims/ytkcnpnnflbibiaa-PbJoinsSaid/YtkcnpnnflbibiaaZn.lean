/- The walks: the reference's check of an element. The walks: the reference's check of an element, whole. The walks: the reference's check of a tensor. -/
import Derived.Test.YtkcnpnnflbibiaaZf
import Derived.Test.YtkcnpnnflbibiaaZl
import Derived.Deep.RegionLaw
import Derived.Deep.QuietTactic
import Derived.BigQuiet
set_option linter.unusedVariables false
/- The walks: the reference's check of an element. -/
namespace Go.Proofs.Ytkcnpnnflbibiaa
open Go.RowKit

theorem run_84 (x : Int) (w : World) : (callFunc 84 #[.int .u32 x]).run Try.prog w = .ok (.value (.float .f32 x.toNat)) w := by
  kernel_rfl

set_option maxHeartbeats 800000 in
theorem bits_f (x : Int) (w : World) (h0 : 0 ≤ x) (h1 : x < 4294967296) : Calls Try.prog 70 #[.int .i64 x] w fun e w' => e = .returned (.float .f32 x.toNat) ∧ w = w' := by
  have h84 := fun w => run_84 x w
  go_enter Try.func70, Try.ntmps70
  go_wp2
  go_ret
  exact ⟨rfl, rfl⟩
theorem single_vals : Ieee.single.signWeight = 2147483648 ∧ Ieee.single.binade = 8388608 ∧ Ieee.single.infRung = 2139095040 := by decide
theorem order_self (d : Ieee.Datum) (h : ∀ s p, d ≠ .nan s p) : d.order d = some .eq := by
  cases d with
  | nan s p => exact absurd rfl (h s p)
  | infinity s => simp [Ieee.Datum.order]
  | number s m i => simp [Ieee.Datum.order]
theorem order_nan (s : Bool) (p : Nat) : (Ieee.Datum.nan s p).order (.nan s p) = none := rfl
/-- A float is itself, unless it is no number. -/
theorem self_eq (n : Nat) : (FloatKind.f32.format.order n n == some Ordering.eq) = decide (n % 2147483648 ≤ 2139095040) := by
  obtain ⟨e1, e2, e3⟩ := single_vals
  show ((Ieee.single.read n).order (Ieee.single.read n) == some Ordering.eq) = _
  by_cases h : n % 2147483648 ≤ 2139095040
  · have hn : ∀ s p, Ieee.single.read n ≠ .nan s p := by
      intro s p
      unfold Ieee.Format.read
      simp only [e1, e2, e3]
      split
      · intro h; cases h
      · split
        · intro h; cases h
        · split
          · intro h; cases h
          · omega
    rw [order_self _ hn]
    simp [h]
  · have hn : ∃ s p, Ieee.single.read n = .nan s p := by
      unfold Ieee.Format.read
      simp only [e1, e2, e3]
      rw [if_neg (by omega), if_neg (by omega), if_neg (by omega)]
      exact ⟨_, _, rfl⟩
    obtain ⟨s, p, e⟩ := hn
    rw [e, order_nan]
    simp [h]
theorem and_mid (n : Nat) : n &&& 2139095040 = (n / 8388608 % 256) * 8388608 := by
  have h1 : n &&& (255 <<< 23) = ((n >>> 23) &&& 255) <<< 23 := by
    apply Nat.eq_of_testBit_eq
    intro i
    simp only [Nat.testBit_and, Nat.testBit_shiftLeft, Nat.testBit_shiftRight]
    by_cases h : 23 ≤ i
    · have e : 23 + (i - 23) = i := by omega
      simp [h, e]
    · simp [h]
  have h2 : (255 <<< 23 : Nat) = 2139095040 := by decide
  have h3 : (n >>> 23) &&& 255 = (n >>> 23) % 2 ^ 8 := Nat.and_two_pow_sub_one_eq_mod (n >>> 23) 8
  rw [h2, h3, Nat.shiftLeft_eq, Nat.shiftRight_eq_div_pow] at h1
  exact h1
theorem and_low (n : Nat) : n &&& 8388607 = n % 8388608 := Nat.and_two_pow_sub_one_eq_mod n 23
theorem bits_and (x c : Int) (h0 : 0 ≤ x) (h1 : x < 4294967296) (c0 : 0 ≤ c) (c1 : c < 4294967296) : bits .and .i64 x c = ((x.toNat &&& c.toNat : Nat) : Int) := by
  have e1 : x % 2 ^ 64 = x := Int.emod_eq_of_lt h0 (by omega)
  have e2 : c % 2 ^ 64 = c := Int.emod_eq_of_lt c0 (by omega)
  have hle : x.toNat &&& c.toNat ≤ c.toNat := Nat.and_le_right
  show IntKind.i64.wrap (((x % 2 ^ 64).toNat &&& (c % 2 ^ 64).toNat : Nat) : Int) = _
  rw [e1, e2]
  exact IntWalk.i64_in _ ⟨by omega, by omega⟩
theorem strange_is (x : Int) (h0 : 0 ≤ x) (h1 : x < 4294967296) : strange x = decide (2139095040 < x.toNat % 2147483648) := by
  unfold strange
  rw [bits_and x 2139095040 h0 h1 (by omega) (by omega), bits_and x 8388607 h0 h1 (by omega) (by omega)]
  have e1 : (2139095040 : Int).toNat = 2139095040 := rfl
  have e2 : (8388607 : Int).toNat = 8388607 := rfl
  rw [e1, e2, and_mid, and_low]
  generalize x.toNat = n
  by_cases h : 2139095040 < n % 2147483648
  · have a1 : n / 8388608 % 256 * 8388608 = 2139095040 := by omega
    have a2 : n % 8388608 ≠ 0 := by omega
    rw [a1]
    simp [h]
    omega
  · have : ¬ (n / 8388608 % 256 * 8388608 = 2139095040 ∧ n % 8388608 ≠ 0) := by omega
    by_cases b1 : n / 8388608 % 256 * 8388608 = 2139095040
    · have b2 : n % 8388608 = 0 := by omega
      simp [h, b2]
    · have b3 : (((n / 8388608 % 256 * 8388608 : Nat) : Int) == 2139095040) = false := by simp; omega
      rw [b3]
      simp [h]
end Go.Proofs.Ytkcnpnnflbibiaa

/- The walks: the reference's check of an element, whole. -/
namespace Go.Proofs.Ytkcnpnnflbibiaa
open Go.RowKit

theorem chk1_low (x : Int) (h : x < 0 ∨ 4294967296 ≤ x) : chk 1 x = false := by
  have : (x / 4294967296 == 0) = false := by
    have : x / 4294967296 ≠ 0 := by omega
    simpa using this
  simp [chk, this]
theorem chk1_in (x : Int) (h0 : 0 ≤ x) (h1 : x < 4294967296) : chk 1 x = (decide (x.toNat % 2147483648 ≤ 2139095040) || x == 2143289344) := by
  have e : x / 4294967296 = 0 := by omega
  simp only [chk, if_pos, e, strange_is x h0 h1]
  by_cases h : x.toNat % 2147483648 ≤ 2139095040
  · have h2 : ¬ 2139095040 < x.toNat % 2147483648 := by omega
    simp [h, h2]
  · have h2 : 2139095040 < x.toNat % 2147483648 := by omega
    simp [h, h2]
theorem chk6 (x : Int) : chk 6 x = (decide (-2147483648 ≤ x) && decide (x ≤ 2147483647)) := by
  have h : (x = wrap64 (wrap32 x)) ↔ (-2147483648 ≤ x ∧ x ≤ 2147483647) := by
    unfold wrap64 wrap32
    omega
  simp only [chk]
  by_cases hx : x = wrap64 (wrap32 x)
  · have h2 := h.1 hx
    have hb : (x == wrap64 (wrap32 x)) = true := by simpa using hx
    simp [hb, h2]
  · have hb : (x == wrap64 (wrap32 x)) = false := by simpa using hx
    have h2 : ¬ (-2147483648 ≤ x ∧ x ≤ 2147483647) := fun g => hx (h.2 g)
    simp [hb]
    omega
theorem chk9 (x : Int) : chk 9 x = (x == 0 || x == 1) := by
  simp only [chk]
  by_cases h0 : x = 0
  · subst h0; decide
  · by_cases h1 : x = 1
    · subst h1; decide
    · have h2 : x / 2 ≠ 0 := by omega
      have b0 : (x == 0) = false := by simpa using h0
      have b1 : (x == 1) = false := by simpa using h1
      have b2 : (x / 2 == 0) = false := by simpa using h2
      simp [b0, b1, b2]

set_option maxHeartbeats 1600000 in
theorem rchk_any (typ x : Int) (w : World) : Calls Try.prog 49 #[.int .i64 typ, .int .i64 x] w fun e w' => e = .returned (.bool (chk typ x)) ∧ w = w' := by
  by_cases t1 : typ = 1
  · subst t1
    by_cases h0 : x < 0
    · have hr := Lib.hid (chk1_low x (.inl h0))
      go_enter Try.func49, Try.ntmps49
      go_wp2
      go_ret
      exact ⟨boo_ret hr.out.symm, rfl⟩
    · by_cases h1 : 4294967296 ≤ x
      · have hr := Lib.hid (chk1_low x (.inr h1))
        go_enter Try.func49, Try.ntmps49
        go_wp2
        go_ret
        exact ⟨boo_ret hr.out.symm, rfl⟩
      · have hr := Lib.hid (chk1_in x (by omega) (by omega))
        have HF := Lib.hid (bits_f x w (by omega) (by omega))
        have hse := self_eq x.toNat
        go_enter Try.func49, Try.ntmps49
        go_wp2_with fail
        refine HF.out.mono ?_
        rintro e w1 ⟨rfl, rfl⟩
        go_wp2_with fail
        refine HF.out.mono ?_
        rintro e w1 ⟨rfl, rfl⟩
        by_cases hn : x.toNat % 2147483648 ≤ 2139095040
        · have hd : decide (x.toNat % 2147483648 ≤ 2139095040) = true := by simpa using hn
          rw [hd] at hse
          go_wp2
          go_ret
          exact ⟨boo_ret (by rw [hr.out]; simp [hn]), rfl⟩
        · have hd : decide (x.toNat % 2147483648 ≤ 2139095040) = false := by simpa using hn
          rw [hd] at hse
          go_wp2
          go_ret
          exact ⟨boo_ret (by rw [hr.out]; simp [hn]), rfl⟩
  by_cases t6 : typ = 6
  · subst t6
    have hr := Lib.hid (chk6 x)
    go_enter Try.func49, Try.ntmps49
    go_wp2
    all_goals
      go_ret
      exact ⟨boo_ret (by rw [hr.out]; try simp; try omega), rfl⟩
  by_cases t9 : typ = 9
  · subst t9
    have hr := Lib.hid (chk9 x)
    go_enter Try.func49, Try.ntmps49
    go_wp2
    all_goals
      go_ret
      exact ⟨boo_ret (by rw [hr.out]; try simp [*]), rfl⟩
  by_cases t7 : typ = 7
  · subst t7
    go_enter Try.func49, Try.ntmps49
    go_wp2
    go_ret
    exact ⟨rfl, rfl⟩
  have hr := Lib.hid (show chk typ x = false by simp [chk, t1, t6, t9, t7])
  go_enter Try.func49, Try.ntmps49
  go_wp2
  all_goals
    go_ret
    exact ⟨boo_ret hr.out.symm, rfl⟩
end Go.Proofs.Ytkcnpnnflbibiaa

/- The walks: the reference's check of a tensor. -/
namespace Go.Proofs.Ytkcnpnnflbibiaa
open Go.RowKit

theorem rtyped_any (typ : Int) (w : World) : Calls Try.prog 43 #[.int .i64 typ] w fun e w' => e = .returned (.bool (typd typ)) ∧ w = w' := by
  go_enter Try.func43, Try.ntmps43
  go_wp2_with fail
  refine (rchk_any typ 0 w).mono ?_
  rintro e w1 ⟨rfl, rfl⟩
  go_wp2
  go_ret
  exact ⟨rfl, rfl⟩

set_option maxRecDepth 100000 in
set_option maxHeartbeats 1600000 in
theorem rcheck_any (t : Tn) (w : World) (B : Nat) (A A' : Option Addr) (n c n' c' : Nat) (hd : Ints w B A n t.dims) (he : Ints w B A' n' t.data) (hB : B ≤ w.heap.size) :
    Calls Try.prog 16 #[.agg #[.int .i64 t.typ, .slice A n c, .slice A' n' c']] w fun e w' => e = .returned (.int .i64 (tchk t)) ∧ Below w.heap.size w w' := by
  obtain ⟨typ, dims, data⟩ := t
  dsimp only at hd he
  have hd1 := hd.alloc hB (.cells #[.int .i64 typ, .slice A n c, .slice A' n' c'] 47)
  have he1 := he.alloc hB (.cells #[.int .i64 typ, .slice A n c, .slice A' n' c'] 47)
  have hb1 : Below w.heap.size w (w.alloc (.cells #[.int .i64 typ, .slice A n c, .slice A' n' c'] 47)) := (Below.refl _ _).alloc (Nat.le_refl _) _
  have hg1 := heap_alloc_new w (.cells #[.int .i64 typ, .slice A n c, .slice A' n' c'] 47)
  have hm : n' ≤ 9223372036854775807 := he.small
  have hlen : data.length = n' := he.len
  have Hlen := Lib.hid hlen
  have HT := Lib.hid (fun w => rtyped_any typ w)
  have HK := Lib.hid (fun x w => rchk_any typ x w)
  have HC := Lib.hid (fun x err hx => rcount_any _ B A n c dims hd1 x err hx)
  have Hb := Lib.hid hb1
  have He := Lib.hid he1
  have Hg := Lib.hid hg1
  clear hd he hd1 he1 hb1 hlen hg1
  cases ht : typd typ with
  | false =>
    have hr : Hid (tchk ⟨typ, dims, data⟩ = 5) := Lib.hid (by simp [tchk, ht])
    rw [ht] at HT
    clear ht
    go_enter Try.func16, Try.ntmps16
    go_wp2_with fail
    refine (HT.out _).mono ?_
    rintro e w1 ⟨rfl, rfl⟩
    go_wp2
    go_ret
    exact ⟨by rw [hr.out]; rfl, Hb.out⟩
  | true =>
    rw [ht] at HT
    have Ht := Lib.hid ht
    clear ht
    have hcx : CountIs dims (if errC dims = 0 then prod dims else 0) (errC dims) := ⟨rfl, rfl⟩
    have C := HC.out _ _ hcx
    by_cases h0 : errC dims = 0
    · rw [if_pos h0, h0] at C
      have HC2 := Lib.hid C
      have H0 := Lib.hid h0
      clear C HC hcx h0
      by_cases hl : (n' : Int) = prod dims
      · have hle : ((n' : Int) != prod dims) = false := by simpa using hl
        have Hl2 := Lib.hid hl
        clear hl
        go_enter Try.func16, Try.ntmps16
        go_wp2_with fail
        refine (HT.out _).mono ?_
        rintro e w1 ⟨rfl, rfl⟩
        go_wp2_with fail
        refine HC2.out.mono ?_
        rintro e w1 ⟨rfl, rfl⟩
        go_wp2_with fail
        go_loopw [5] (fun i wr => ∃ k : Nat, k ≤ n' ∧ i = .int .i64 k ∧ Below (w.heap.size + 1) (w.alloc (.cells #[.int .i64 typ, .slice A n c, .slice A' n' c'] 47)) wr ∧ ∀ j, j < k → chk typ (ix data j) = true) (fun i _ => n' - (intOf i).toNat)
        case atStart => exact ⟨0, Nat.zero_le _, rfl, Below.refl _ _, fun j hj => absurd hj (by omega)⟩
        case round =>
          obtain ⟨k, hk, rfl, hbr, hall⟩ := hrel
          have Hall := Lib.hid hall
          have Hbr := Lib.hid hbr
          clear hall
          have hgr := (hbr.block w.heap.size (by omega)).trans Hg.out
          have q0 : wr.cell? ⟨w.heap.size, 0, none⟩ = some (.int .i64 typ) := cell_of_row _ _ 0 _ 47 (0, 0) hgr
          have q1 : wr.cell? ⟨w.heap.size, 1, none⟩ = some (.slice A n c) := cell_of_row _ _ 1 _ 47 (0, 0) hgr
          have q2 : wr.cell? ⟨w.heap.size, 2, none⟩ = some (.slice A' n' c') := cell_of_row _ _ 2 _ 47 (0, 0) hgr
          have her := He.out.below (B' := w.heap.size + 1) (hbr.mono (show B ≤ w.heap.size + 1 by omega)) (by omega)
          clear hbr hgr
          by_cases hlt : k < n'
          · have hdk : decide ((k : Int) < prod dims) = true := by rw [← Hl2.out]; simp; omega
            obtain ⟨b, off, rfl, hb, hc⟩ := her.get hlt
            have HB := Lib.hid (HK.out (ix data k))
            cases hx : chk typ (ix data k) with
            | true =>
              have Hx := Lib.hid hx
              rw [hx] at HB
              clear hx
              go_wp2
              go_quiet ((go_at_call 49; exact Calls.quiet_of_same ((HB.out _).mono fun _ _ h => ⟨h.1, h.2.symm⟩)))
              go_wp2
              go_roundw
              case rel => exact ⟨k + 1, by omega, by go_num, below_drewN Hbr.out _, fun j hj => by
                by_cases e : j = k
                · subst e; exact Hx.out
                · exact Hall.out j (by omega)⟩
              case measure => simp [intOf]; omega
            | false =>
              have ha : ¬ AllChk typ data := fun h => by have := h k (by rw [Hlen.out]; exact hlt); rw [hx] at this; cases this
              have hr : Hid (tchk ⟨typ, dims, data⟩ = 4) := Lib.hid (by simp [tchk, Ht.out, H0.out, Hlen.out, Hl2.out, ha])
              rw [hx] at HB
              clear hx ha
              go_wp2
              go_quiet ((go_at_call 49; exact Calls.quiet_of_same ((HB.out _).mono fun _ _ h => ⟨h.1, h.2.symm⟩)))
              go_wp2
              go_ret
              exact ⟨by rw [hr.out]; rfl, below_drewN (Hb.out.trans (Hbr.out.mono (Nat.le_succ _))) _⟩
          · have hdk : decide ((k : Int) < prod dims) = false := by rw [← Hl2.out]; simp; omega
            obtain rfl : k = n' := by omega
            have ha : AllChk typ data := fun j hj => Hall.out j (by rw [← Hlen.out]; exact hj)
            have hr : Hid (tchk ⟨typ, dims, data⟩ = 0) := Lib.hid (by simp [tchk, Ht.out, H0.out, Hlen.out, Hl2.out, ha])
            go_wp2
            go_ret
            exact ⟨by rw [hr.out]; rfl, Hb.out.trans (Hbr.out.mono (Nat.le_succ _))⟩
      · have hle : ((n' : Int) != prod dims) = true := by simpa using hl
        have hr : Hid (tchk ⟨typ, dims, data⟩ = 4) := Lib.hid (by simp [tchk, Ht.out, H0.out, Hlen.out, hl])
        go_enter Try.func16, Try.ntmps16
        go_wp2_with fail
        refine (HT.out _).mono ?_
        rintro e w1 ⟨rfl, rfl⟩
        go_wp2_with fail
        refine HC2.out.mono ?_
        rintro e w1 ⟨rfl, rfl⟩
        go_wp2
        go_ret
        exact ⟨by rw [hr.out]; rfl, Hb.out⟩
    · have hr : Hid (tchk ⟨typ, dims, data⟩ = errC dims) := Lib.hid (by simp [tchk, Ht.out, h0])
      have he0 : (errC dims != 0) = true := by simpa using h0
      rw [if_neg h0] at C
      have HC2 := Lib.hid C
      clear C HC hcx
      go_enter Try.func16, Try.ntmps16
      go_wp2_with fail
      refine (HT.out _).mono ?_
      rintro e w1 ⟨rfl, rfl⟩
      go_wp2_with fail
      refine HC2.out.mono ?_
      rintro e w1 ⟨rfl, rfl⟩
      go_wp2
      go_ret
      exact ⟨by rw [hr.out]; rfl, Hb.out⟩
end Go.Proofs.Ytkcnpnnflbibiaa
