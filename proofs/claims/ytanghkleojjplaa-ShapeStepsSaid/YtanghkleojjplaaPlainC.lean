/- Plain laws on the next element's coordinates, on counts of lists put together. -/
import Derived.Test.YtanghkleojjplaaPlainB
namespace Go.Proofs.Ytanghkleojjplaa

/-- All places from k on are at their ends. -/
def Full (l : List Int) (n : Int) (k : Nat) : Prop := n % prod (l.drop k) = prod (l.drop k) - 1

theorem full_end (l : List Int) (n : Int) : Full l n l.length := by
  unfold Full; simp [prod, Int.emod_one]
theorem div_succ_full {n q : Int} (hq : 1 ≤ q) (h : n % q = q - 1) : (n + 1) / q = n / q + 1 := by
  have e := Int.mul_ediv_add_emod n q
  have e2 : n + 1 = 0 + q * (n / q + 1) := by rw [Int.mul_add]; omega
  rw [e2, Int.add_mul_ediv_left _ _ (by omega)]; simp
theorem div_succ_not {n q : Int} (hq : 1 ≤ q) (h : ¬ n % q = q - 1) : (n + 1) / q = n / q := by
  have e := Int.mul_ediv_add_emod n q
  have h1 := Int.emod_nonneg n (b := q) (by omega)
  have h2 := Int.emod_lt_of_pos n (b := q) (by omega)
  have e2 : n + 1 = (n % q + 1) + q * (n / q) := by omega
  rw [e2, Int.add_mul_ediv_left _ _ (by omega), Int.ediv_eq_zero_of_lt (by omega) (by omega)]; omega
theorem mod_split (l : List Int) (n : Int) (k : Nat) (h : k < l.length) : n % prod (l.drop k) = coAt l n k * prod (l.drop (k + 1)) + n % prod (l.drop (k + 1)) := by
  have e := Int.mul_ediv_add_emod (n % prod (l.drop k)) (prod (l.drop (k + 1)))
  rw [mod_mod_prod l n k h] at e
  unfold coAt
  rw [Int.mul_comm]; omega
theorem succ_mod_full {a d : Int} (hd : 1 ≤ d) (h : a % d = d - 1) : (a + 1) % d = 0 := by
  have e := Int.mul_ediv_add_emod a d
  have e2 : a + 1 = d * (a / d + 1) := by rw [Int.mul_add]; omega
  rw [e2]; exact Int.mul_emod_right _ _
theorem succ_mod_not {a d : Int} (hd : 1 ≤ d) (h : ¬ a % d = d - 1) : (a + 1) % d = a % d + 1 := by
  have e := Int.mul_ediv_add_emod a d
  have h1 := Int.emod_nonneg a (b := d) (by omega)
  have h2 := Int.emod_lt_of_pos a (b := d) (by omega)
  have e2 : a + 1 = (a % d + 1) + d * (a / d) := by omega
  rw [e2, Int.add_mul_emod_self_left, Int.emod_eq_of_lt (by omega) (by omega)]
/-- A place at its end goes to nought, and the places from it on are at their ends. -/
theorem next_zero (l : List Int) (n : Int) (k : Nat) (h : k < l.length) (hp : Pos l) (hf : Full l n (k + 1)) (he : coAt l n k = ix l k - 1) : coAt l (n + 1) k = 0 ∧ Full l n k := by
  have hq := prod_pos (pos_drop hp (k + 1))
  have hd := pos_ix hp k h
  refine ⟨?_, ?_⟩
  · rw [coAt_alt l _ k h hp] at he ⊢
    rw [div_succ_full hq hf]
    exact succ_mod_full hd he
  · unfold Full at hf ⊢
    rw [mod_split l n k h, hf, he, prod_drop_succ l k h, Int.sub_mul]; omega
/-- A place that is not at its end goes one up, and those ahead of it stay. -/
theorem next_up (l : List Int) (n : Int) (k : Nat) (h : k < l.length) (hp : Pos l) (hf : Full l n (k + 1)) (he : ¬ coAt l n k = ix l k - 1) : coAt l (n + 1) k = coAt l n k + 1 ∧ ∀ j, j < k → coAt l (n + 1) j = coAt l n j := by
  have hq := prod_pos (pos_drop hp (k + 1))
  have hd := pos_ix hp k h
  have hb := coAt_bd l n k h hp
  have hnf : ¬ Full l n k := by
    unfold Full at hf ⊢
    rw [mod_split l n k h, hf, prod_drop_succ l k h]
    intro e
    have h1 : coAt l n k * prod (l.drop (k + 1)) ≤ (ix l k - 2) * prod (l.drop (k + 1)) := Int.mul_le_mul_of_nonneg_right (by omega) (by omega)
    rw [Int.sub_mul] at h1
    omega
  refine ⟨?_, ?_⟩
  · rw [coAt_alt l _ k h hp] at he ⊢
    rw [coAt_alt l _ k h hp, div_succ_full hq hf]
    exact succ_mod_not hd he
  · have hk := div_succ_not (prod_pos (pos_drop hp k)) hnf
    have all : ∀ m j, j + m = k → (n + 1) / prod (l.drop j) = n / prod (l.drop j) := by
      intro m
      induction m with
      | zero => intro j hj; rw [show j = k by omega]; exact hk
      | succ m ih =>
        intro j hj
        have e := ih (j + 1) (by omega)
        rw [← left_step l (n + 1) j (by omega) hp, ← left_step l n j (by omega) hp, e]
    intro j hj
    rw [coAt_alt l _ j (by omega) hp, coAt_alt l _ j (by omega) hp, all (k - (j + 1)) (j + 1) (by omega)]
theorem full_zero (l : List Int) (n : Int) (h0 : 0 ≤ n) (h1 : n + 1 < prod l) : ¬ Full l n 0 := by
  unfold Full
  rw [List.drop_zero, Int.emod_eq_of_lt h0 (by omega)]
  omega

/-- Counts of two put together. -/
theorem good_append (a b : List Int) (ha : Good a) (hb : Good b) : (a ++ b).length ≤ 6 → prod a * prod b ≤ 65536 → Good (a ++ b) := fun h1 h2 =>
  ⟨pos_append.2 ⟨ha.1, hb.1⟩, h1, by rw [prod_append]; exact h2⟩
theorem big_append (a b : List Int) (ha : Good a) (hb : Good b) (h : 6 < (a ++ b).length ∨ 65536 < prod a * prod b) : CountIs (a ++ b) 0 6 :=
  countIs_6 (pos_append.2 ⟨ha.1, hb.1⟩) (by rw [prod_append]; exact h)
end Go.Proofs.Ytanghkleojjplaa
