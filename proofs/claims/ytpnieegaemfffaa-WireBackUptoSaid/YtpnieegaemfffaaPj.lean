/- Plain laws on the wire: two texts, one behind the other. No program in sight. -/
import Derived.Test.YtpnieegaemfffaaPlain
namespace Go.Proofs.Ytpnieegaemfffaa

theorem bt_left (s t : ByteArray) (k : Nat) (h : k < s.size) : bt (s ++ t) k = bt s k := by
  unfold bt
  have h1 : k < s.data.toList.length := by simpa using h
  rw [ByteArray.data_append, Array.toList_append, List.getD_eq_getElem?_getD, List.getD_eq_getElem?_getD, List.getElem?_append_left h1]
theorem bt_right (s t : ByteArray) (k : Nat) : bt (s ++ t) (s.size + k) = bt t k := by
  unfold bt
  have h1 : s.data.toList.length = s.size := by simp
  rw [ByteArray.data_append, Array.toList_append, List.getD_eq_getElem?_getD, List.getD_eq_getElem?_getD, List.getElem?_append_right (by omega), h1, show s.size + k - s.size = k by omega]
theorem size_app (s t : ByteArray) : (s ++ t).size = s.size + t.size := ByteArray.size_append

theorem nx_left (s t : ByteArray) (p i : Nat) (u : Int) (h : p + i < s.size) : nx (s ++ t) p i u = nx s p i u := by unfold nx; rw [bt_left s t _ h]
theorem nx_right (s t : ByteArray) (p i : Nat) (u : Int) : nx (s ++ t) (s.size + p) i u = nx t p i u := by unfold nx; rw [Nat.add_assoc, bt_right]
theorem tkGo_left (s t : ByteArray) (p : Nat) : ∀ f i u r, tkGo s p f i u = some r → tkGo (s ++ t) p f i u = some r := by
  intro f
  induction f with
  | zero => intro i u r h; simp [tkGo] at h
  | succ f ih =>
    intro i u r h
    unfold tkGo at h ⊢
    by_cases h1 : s.size ≤ p + i
    · simp [h1] at h
    · rw [if_neg h1] at h
      rw [if_neg (by rw [size_app]; omega), bt_left s t _ (by omega), nx_left s t p i u (by omega)]
      by_cases h2 : i = 9 ∧ 1 < bt s (p + i)
      · rw [if_pos h2] at h; cases h
      · rw [if_neg h2] at h ⊢
        by_cases h3 : bt s (p + i) < 128
        · rw [if_pos h3] at h ⊢; exact h
        · rw [if_neg h3] at h ⊢; exact ih _ _ _ h
theorem tkGo_right (s t : ByteArray) (p : Nat) : ∀ f i u, tkGo (s ++ t) (s.size + p) f i u = (tkGo t p f i u).map fun r => (r.1, s.size + r.2) := by
  intro f
  induction f with
  | zero => intro i u; simp [tkGo]
  | succ f ih =>
    intro i u
    unfold tkGo
    rw [size_app, show s.size + p + i = s.size + (p + i) by omega, bt_right, nx_right]
    by_cases h1 : t.size ≤ p + i
    · rw [if_pos (by omega), if_pos h1]; rfl
    · rw [if_neg (by omega), if_neg h1]
      by_cases h2 : i = 9 ∧ 1 < bt t (p + i)
      · rw [if_pos h2, if_pos h2]; rfl
      · rw [if_neg h2, if_neg h2]
        by_cases h3 : bt t (p + i) < 128
        · rw [if_pos h3, if_pos h3]; simp; omega
        · rw [if_neg h3, if_neg h3]; exact ih _ _
theorem tk_left {s : ByteArray} (t : ByteArray) {p : Nat} {r : Int × Nat} (h : tk s p = some r) : tk (s ++ t) p = some r := tkGo_left s t p 10 0 0 r h
theorem tk_right (s t : ByteArray) (p : Nat) : tk (s ++ t) (s.size + p) = (tk t p).map fun r => (r.1, s.size + r.2) := tkGo_right s t p 10 0 0
theorem lowS_left (s t : ByteArray) (n : Nat) : ∀ p, p + n ≤ s.size → lowS (s ++ t) p n = lowS s p n := by
  induction n with
  | zero => intro p _; rfl
  | succ n ih => intro p h; rw [lowS, lowS, bt_left s t _ (by omega), ih _ (by omega)]
theorem lowS_right (s t : ByteArray) (n : Nat) : ∀ p, lowS (s ++ t) (s.size + p) n = lowS t p n := by
  induction n with
  | zero => intro p; rfl
  | succ n ih => intro p; rw [lowS, lowS, bt_right, Nat.add_assoc, ih]
theorem list_ext (a b : ByteArray) (h : a.data.toList = b.data.toList) : a = b := by
  cases a; cases b; simp at h; simpa using h
theorem extract_left (s t : ByteArray) (p q : Nat) (h : q ≤ s.size) : (s ++ t).extract p q = s.extract p q := by
  apply list_ext
  have h1 : s.data.toList.length = s.size := by simp
  simp only [ByteArray.data_extract, Array.toList_extract, ByteArray.data_append, Array.toList_append, List.extract_eq_take_drop]
  rcases Nat.le_total p s.size with h2 | h2
  · rw [List.drop_append_of_le_length (by omega), List.take_append_of_le_length (by rw [List.length_drop]; omega)]
  · rw [show q - p = 0 by omega]; simp
theorem extract_right (s t : ByteArray) (p q : Nat) : (s ++ t).extract (s.size + p) (s.size + q) = t.extract p q := by
  apply list_ext
  have h1 : s.data.toList.length = s.size := by simp
  simp only [ByteArray.data_extract, Array.toList_extract, ByteArray.data_append, Array.toList_append, List.extract_eq_take_drop]
  rw [List.drop_append, List.drop_eq_nil_of_le (by omega), List.nil_append, h1, show s.size + p - s.size = p by omega, show s.size + q - (s.size + p) = q - p by omega]
theorem bodyS_left {s : ByteArray} (t : ByteArray) {hd : Int} {p : Nat} (hp : p ≤ s.size) {r : Fd × Nat} (h : bodyS s hd p = some r) : bodyS (s ++ t) hd p = some r := by
  unfold bodyS at h ⊢
  by_cases h0 : hd % 8 = 0
  · rw [if_pos h0] at h ⊢
    cases e : tk s p with
    | none => rw [e] at h; cases h
    | some x => rw [e] at h; rw [tk_left t e]; exact h
  · rw [if_neg h0] at h ⊢
    by_cases h1 : hd % 8 = 1
    · rw [if_pos h1] at h ⊢
      by_cases h2 : s.size < p + 8
      · rw [if_pos h2] at h; cases h
      · rw [if_neg h2] at h
        rw [if_neg (by rw [size_app]; omega), lowS_left s t 8 p (by omega)]
        exact h
    · rw [if_neg h1] at h ⊢
      by_cases h5 : hd % 8 = 5
      · rw [if_pos h5] at h ⊢
        by_cases h2 : s.size < p + 4
        · rw [if_pos h2] at h; cases h
        · rw [if_neg h2] at h
          rw [if_neg (by rw [size_app]; omega), lowS_left s t 4 p (by omega)]
          exact h
      · rw [if_neg h5] at h ⊢
        by_cases h2 : hd % 8 = 2
        · rw [if_pos h2] at h ⊢
          cases e : tk s p with
          | none => rw [e] at h; cases h
          | some x =>
            obtain ⟨u, n⟩ := x
            have hb := tk_bd e
            rw [e] at h
            rw [tk_left t e]
            simp only [Option.bind_some] at h ⊢
            by_cases h3 : (s.size : Int) - n < u
            · rw [if_pos h3] at h; cases h
            · rw [if_neg h3] at h
              rw [if_neg (by rw [size_app]; omega), extract_left s t _ _ (by omega)]
              exact h
        · rw [if_neg h2] at h; cases h
theorem bodyS_right (s t : ByteArray) (hd : Int) (p : Nat) : bodyS (s ++ t) hd (s.size + p) = (bodyS t hd p).map fun r => (r.1, s.size + r.2) := by
  unfold bodyS
  by_cases h0 : hd % 8 = 0
  · rw [if_pos h0, if_pos h0, tk_right]
    cases tk t p <;> rfl
  · rw [if_neg h0, if_neg h0]
    by_cases h1 : hd % 8 = 1
    · rw [if_pos h1, if_pos h1, size_app, lowS_right]
      by_cases h2 : t.size < p + 8
      · rw [if_pos h2, if_pos (by omega)]; rfl
      · rw [if_neg h2, if_neg (by omega)]; simp; omega
    · rw [if_neg h1, if_neg h1]
      by_cases h5 : hd % 8 = 5
      · rw [if_pos h5, if_pos h5, size_app, lowS_right]
        by_cases h2 : t.size < p + 4
        · rw [if_pos h2, if_pos (by omega)]; rfl
        · rw [if_neg h2, if_neg (by omega)]; simp; omega
      · rw [if_neg h5, if_neg h5]
        by_cases h2 : hd % 8 = 2
        · rw [if_pos h2, if_pos h2, tk_right]
          cases e : tk t p with
          | none => rfl
          | some x =>
            obtain ⟨u, n⟩ := x
            simp only [Option.map_some, Option.bind_some]
            rw [size_app]
            by_cases h3 : (t.size : Int) - n < u
            · rw [if_pos h3, if_pos (by omega)]; rfl
            · rw [if_neg h3, if_neg (by omega), Nat.add_assoc, extract_right]; simp
        · rw [if_neg h2, if_neg h2]; rfl
theorem fieldS_left {s : ByteArray} (t : ByteArray) {p : Nat} {r : Fd × Nat} (h : fieldS s p = some r) : fieldS (s ++ t) p = some r := by
  unfold fieldS at h ⊢
  cases e : tk s p with
  | none => rw [e] at h; cases h
  | some x =>
    obtain ⟨u, n⟩ := x
    have hb := tk_bd e
    rw [e] at h
    rw [tk_left t e]
    simp only [Option.bind_some] at h ⊢
    by_cases h3 : 4294967295 < u ∨ u < 8
    · rw [if_pos h3] at h; cases h
    · rw [if_neg h3] at h ⊢; exact bodyS_left t (by omega) h
theorem fieldS_right (s t : ByteArray) (p : Nat) : fieldS (s ++ t) (s.size + p) = (fieldS t p).map fun r => (r.1, s.size + r.2) := by
  unfold fieldS
  rw [tk_right]
  cases e : tk t p with
  | none => rfl
  | some x =>
    obtain ⟨u, n⟩ := x
    simp only [Option.map_some, Option.bind_some]
    by_cases h3 : 4294967295 < u ∨ u < 8
    · rw [if_pos h3, if_pos h3]; rfl
    · rw [if_neg h3, if_neg h3]; exact bodyS_right s t u n
theorem fgo_right (s t : ByteArray) : ∀ f p, fgo (s ++ t) f (s.size + p) = fgo t f p := by
  intro f
  induction f with
  | zero =>
    intro p
    unfold fgo
    rw [size_app]
    by_cases h : p < t.size
    · rw [if_pos h, if_pos (by omega)]
    · rw [if_neg h, if_neg (by omega)]
  | succ f ih =>
    intro p
    unfold fgo
    rw [size_app]
    by_cases h : p < t.size
    · rw [if_pos h, if_pos (by omega), fieldS_right]
      cases fieldS t p with
      | none => rfl
      | some r => simp only [Option.map_some, Option.bind_some]; rw [ih]
    · rw [if_neg h, if_neg (by omega)]
theorem fields_right (s t : ByteArray) : fieldsS (s ++ t) s.size = fieldsS t 0 := by
  rw [← fgo_fuel (s ++ t) (t.size - 0) s.size (by rw [size_app]; omega)]
  exact fgo_right s t (t.size - 0) 0
theorem fields_left (s t : ByteArray) : ∀ k p l, s.size - p ≤ k → p ≤ s.size → fieldsS s p = some l → fieldsS (s ++ t) p = (fieldsS t 0).map (l ++ ·) := by
  intro k
  induction k with
  | zero =>
    intro p l hk hp h
    obtain rfl : p = s.size := by omega
    rw [fields_end (by omega)] at h
    cases h
    rw [fields_right]
    cases fieldsS t 0 <;> simp
  | succ k ih =>
    intro p l hk hp h
    by_cases hlt : p < s.size
    · cases e : fieldS s p with
      | none => rw [fields_bad hlt e] at h; cases h
      | some r =>
        obtain ⟨f, n⟩ := r
        have hb := fieldS_bd e
        rw [fields_step hlt e] at h
        cases e2 : fieldsS s n with
        | none => rw [e2] at h; cases h
        | some m =>
          rw [e2] at h
          simp at h
          subst h
          rw [fields_step (by rw [size_app]; omega) (fieldS_left t e), ih n m (by omega) (by omega) e2]
          cases fieldsS t 0 <;> simp
    · obtain rfl : p = s.size := by omega
      rw [fields_end (by omega)] at h
      cases h
      rw [fields_right]
      cases fieldsS t 0 <;> simp
/-- THE LAW: what two texts say, their one text says. -/
theorem fields_joined {s t : ByteArray} {l m : List Fd} (h : fieldsS s 0 = some l) (g : fieldsS t 0 = some m) : fieldsS (s ++ t) 0 = some (l ++ m) := by
  rw [fields_left s t s.size 0 l (by omega) (by omega) h, g]; rfl
end Go.Proofs.Ytpnieegaemfffaa
