/- Plain laws on the wire: numbers read from bytes. No program in sight. Plain laws on the wire: two texts, one behind the other. No program in sight. Plain laws on lists of integers for the shape statements: counts, strides, offsets, coordinates, spreading. No program in sight. -/
/- Plain laws on the wire: numbers read from bytes. No program in sight. -/
set_option linter.unusedVariables false
namespace Go.Proofs.Ytkcnpnnflbibiaa

/-- The byte at a place, as a number. -/
def bt (s : ByteArray) (k : Nat) : Int := ((s.data.toList.getD k 0).toNat : Int)
theorem bt_bd (s : ByteArray) (k : Nat) : 0 ≤ bt s k ∧ bt s k ≤ 255 := by
  have h := (s.data.toList.getD k 0).toNat_lt
  unfold bt; omega
theorem bt_get (s : ByteArray) (k : Nat) (h : k < s.size) : ((s[k]'h).toNat : Int) = bt s k := by
  unfold bt
  have h1 : k < s.data.toList.length := by simpa using h
  rw [List.getD_eq_getElem?_getD, List.getElem?_eq_getElem h1]
  rfl

def two (i : Nat) : Int := 2 ^ (7 * i)
theorem two_pos (i : Nat) : 1 ≤ two i := by
  unfold two
  have : (0 : Int) < 2 ^ (7 * i) := Int.pow_pos (by omega)
  omega
theorem two_succ (i : Nat) : two (i + 1) = 128 * two i := by
  unfold two; rw [show 7 * (i + 1) = 7 * i + 7 by omega, Int.pow_add]; omega
/-- One more byte of a number. -/
def nx (s : ByteArray) (p i : Nat) (u : Int) : Int := u + bt s (p + i) % 128 * two i
def tkGo (s : ByteArray) (p : Nat) : Nat → Nat → Int → Option (Int × Nat)
  | 0, _, _ => none
  | f + 1, i, u =>
    if s.size ≤ p + i then none else if i = 9 ∧ 1 < bt s (p + i) then none else
    if bt s (p + i) < 128 then some (nx s p i u, p + i + 1) else tkGo s p f (i + 1) (nx s p i u)
/-- The number that begins at p, and the place behind it. -/
def tk (s : ByteArray) (p : Nat) : Option (Int × Nat) := tkGo s p 10 0 0

def B64 : Int := 18446744073709551616
theorem nx_bd (s : ByteArray) (p i : Nat) (u : Int) (h0 : 0 ≤ u) (h1 : u < two i) : 0 ≤ nx s p i u ∧ nx s p i u < two (i + 1) := by
  have hb := bt_bd s (p + i)
  have ht := two_pos i
  have h2 : 0 ≤ bt s (p + i) % 128 * two i := Int.mul_nonneg (by omega) (by omega)
  have h3 : bt s (p + i) % 128 * two i ≤ 127 * two i := Int.mul_le_mul_of_nonneg_right (by omega) (by omega)
  rw [two_succ]
  unfold nx
  omega
theorem two_9 : two 9 = 9223372036854775808 := by decide
theorem two_le (i j : Nat) (h : i ≤ j) : two i ≤ two j := by
  induction j with
  | zero => rw [show i = 0 by omega]; omega
  | succ j ih =>
    rcases Nat.lt_or_ge i (j + 1) with h1 | h1
    · have := ih (by omega); have := two_pos j; rw [two_succ]; omega
    · rw [show i = j + 1 by omega]; omega
theorem nx_64 (s : ByteArray) (p i : Nat) (u : Int) (hi : i ≤ 9) (h0 : 0 ≤ u) (h1 : u < two i) (h9 : ¬ (i = 9 ∧ 1 < bt s (p + i))) : 0 ≤ nx s p i u ∧ nx s p i u < B64 := by
  obtain ⟨a, b⟩ := nx_bd s p i u h0 h1
  refine ⟨a, ?_⟩
  by_cases e : i = 9
  · subst e
    have hb := bt_bd s (p + 9)
    unfold nx at *
    rw [two_9] at *
    have : bt s (p + 9) % 128 = bt s (p + 9) := by omega
    rw [this]
    unfold B64; omega
  · have h2 := two_le (i + 1) 9 (by omega)
    rw [two_9] at h2
    unfold B64; omega
/-- What is added, by itself. -/
theorem part_bd (s : ByteArray) (p i : Nat) (u : Int) (hi : i ≤ 9) (h0 : 0 ≤ u) (h1 : u < two i) (h9 : ¬ (i = 9 ∧ 1 < bt s (p + i))) : 0 ≤ bt s (p + i) % 128 * two i ∧ bt s (p + i) % 128 * two i < B64 := by
  obtain ⟨a, b⟩ := nx_64 s p i u hi h0 h1 h9
  unfold nx at b
  have hb := bt_bd s (p + i)
  have := two_pos i
  exact ⟨Int.mul_nonneg (by omega) (by omega), by omega⟩
theorem tkGo_bd (s : ByteArray) (p : Nat) (f : Nat) : ∀ i u, i + f ≤ 10 → 0 ≤ u → u < two i → ∀ v n, tkGo s p f i u = some (v, n) → 0 ≤ v ∧ v < B64 ∧ p + i < n ∧ n ≤ s.size ∧ n ≤ p + i + f := by
  induction f with
  | zero => intro i u _ _ _ v n h; simp [tkGo] at h
  | succ f ih =>
    intro i u hf h0 h1 v n h
    unfold tkGo at h
    split at h
    · simp at h
    · next hs =>
      split at h
      · simp at h
      · next h9 =>
        obtain ⟨a, b⟩ := nx_64 s p i u (by omega) h0 h1 h9
        split at h
        · simp only [Option.some.injEq, Prod.mk.injEq] at h
          obtain ⟨rfl, rfl⟩ := h
          exact ⟨a, b, by omega, by omega, by omega⟩
        · have := ih (i + 1) (nx s p i u) (by omega) a (nx_bd s p i u h0 h1).2 v n h
          omega
theorem tk_bd {s : ByteArray} {p : Nat} {v : Int} {n : Nat} (h : tk s p = some (v, n)) : 0 ≤ v ∧ v < B64 ∧ p < n ∧ n ≤ s.size := by
  have := tkGo_bd s p 10 0 0 (by omega) (by omega) (by decide) v n h
  omega

/-! ### Numbers written -/
def vencF : Nat → Int → List Int
  | 0, u => [u % 256]
  | f + 1, u => if u < 128 then [u % 256] else (u % 128 + 128) :: vencF f (u / 128)
/-- The form of a number. -/
def venc (u : Int) : List Int := vencF 9 u
theorem vencF_stop (f : Nat) (u : Int) (h : u < 128) : vencF f u = [u % 256] := by cases f <;> simp [vencF, h]
theorem vencF_more (f : Nat) (u : Int) (h : ¬ u < 128) : vencF (f + 1) u = (u % 128 + 128) :: vencF f (u / 128) := by simp [vencF, h]
theorem vencF_byte (f : Nat) : ∀ u, 0 ≤ u → ∀ x ∈ vencF f u, 0 ≤ x ∧ x < 256 := by
  induction f with
  | zero => intro u _ x hx; simp [vencF] at hx; omega
  | succ f ih =>
    intro u h0 x hx
    by_cases h : u < 128
    · rw [vencF_stop _ _ h] at hx; simp at hx; omega
    · rw [vencF_more _ _ h] at hx
      rcases List.mem_cons.1 hx with h1 | h1
      · omega
      · exact ih (u / 128) (by omega) x h1
theorem vencF_len (f : Nat) : ∀ u, 1 ≤ (vencF f u).length ∧ (vencF f u).length ≤ f + 1 := by
  induction f with
  | zero => intro u; simp [vencF]
  | succ f ih =>
    intro u
    by_cases h : u < 128
    · rw [vencF_stop _ _ h]; simp
    · rw [vencF_more _ _ h]; have := ih (u / 128); simp; omega

/-! ### Fixed numbers -/
/-- So many bytes at a place, the lowest eight bits first. -/
def lowS (s : ByteArray) : Nat → Nat → Int
  | _, 0 => 0
  | p, n + 1 => bt s p + 256 * lowS s (p + 1) n
theorem lowS_bd (s : ByteArray) (p n : Nat) : 0 ≤ lowS s p n ∧ lowS s p n < 256 ^ n := by
  induction n generalizing p with
  | zero => simp [lowS]
  | succ n ih =>
    have h := ih (p + 1)
    have hb := bt_bd s p
    rw [lowS, Int.pow_succ]
    omega
theorem pow256_le (i j : Nat) (h : i ≤ j) : (256 : Int) ^ i ≤ 256 ^ j := by
  induction j with
  | zero => rw [show i = 0 by omega]; exact Int.le_refl _
  | succ j ih =>
    rcases Nat.lt_or_ge i (j + 1) with h1 | h1
    · have h2 := ih (by omega)
      have h3 : (0 : Int) < 256 ^ j := Int.pow_pos (by omega)
      rw [Int.pow_succ]; omega
    · rw [show i = j + 1 by omega]; exact Int.le_refl _
theorem lowS_64 (s : ByteArray) (p n : Nat) (h : n ≤ 7) : lowS s p n * 256 < B64 := by
  have h1 := (lowS_bd s p n).2
  have h2 := pow256_le n 7 h
  have h3 : (256 : Int) ^ 7 = 72057594037927936 := by decide
  unfold B64; omega
theorem bt_extract (s : ByteArray) (p q k : Nat) (h : p + k < q) (hq : q ≤ s.size) : bt (s.extract p q) k = bt s (p + k) := by
  have h1 : k < (s.extract p q).size := by simp; omega
  rw [← bt_get _ k h1, ← bt_get s (p + k) (by omega)]
  congr 2
  exact ByteArray.getElem_extract h1

/-! ### Fields -/
/-- A field. -/
structure Fd where
  num : Int
  kind : Int
  u : Int
  b : ByteArray
/-- What stands behind a head. -/
def bodyS (s : ByteArray) (head : Int) (p : Nat) : Option (Fd × Nat) :=
  if head % 8 = 0 then (tk s p).map fun r => (⟨head / 8, 0, r.1, ⟨#[]⟩⟩, r.2)
  else if head % 8 = 1 then (if s.size < p + 8 then none else some (⟨head / 8, 1, lowS s p 8, ⟨#[]⟩⟩, p + 8))
  else if head % 8 = 5 then (if s.size < p + 4 then none else some (⟨head / 8, 5, lowS s p 4, ⟨#[]⟩⟩, p + 4))
  else if head % 8 = 2 then (tk s p).bind fun r => if (s.size : Int) - r.2 < r.1 then none else some (⟨head / 8, 2, 0, s.extract r.2 (r.2 + r.1.toNat)⟩, r.2 + r.1.toNat)
  else none
/-- The field that begins at a place, and the place behind it. -/
def fieldS (s : ByteArray) (p : Nat) : Option (Fd × Nat) :=
  (tk s p).bind fun r => if 4294967295 < r.1 ∨ r.1 < 8 then none else bodyS s r.1 r.2
theorem bodyS_bd {s : ByteArray} {hd : Int} {p : Nat} (hp : p ≤ s.size) {f : Fd} {n : Nat} (h : bodyS s hd p = some (f, n)) : p ≤ n ∧ n ≤ s.size := by
  unfold bodyS at h
  split at h
  · cases e : tk s p with
    | none => rw [e] at h; simp at h
    | some r =>
      rw [e] at h
      simp at h
      have := tk_bd (show tk s p = some (r.1, r.2) by rw [e])
      omega
  · split at h
    · split at h
      · simp at h
      · simp at h; omega
    · split at h
      · split at h
        · simp at h
        · simp at h; omega
      · split at h
        · cases e : tk s p with
          | none => rw [e] at h; simp at h
          | some r =>
            rw [e] at h
            simp only [Option.bind_some] at h
            have := tk_bd (show tk s p = some (r.1, r.2) by rw [e])
            split at h
            · simp at h
            · simp at h; omega
        · simp at h
theorem fieldS_bd {s : ByteArray} {p : Nat} {f : Fd} {n : Nat} (h : fieldS s p = some (f, n)) : p < n ∧ n ≤ s.size := by
  unfold fieldS at h
  cases e : tk s p with
  | none => rw [e] at h; simp at h
  | some r =>
    rw [e] at h
    simp only [Option.bind_some] at h
    have h1 := tk_bd (show tk s p = some (r.1, r.2) by rw [e])
    split at h
    · simp at h
    · have h2 := bodyS_bd h1.2.2.2 h
      omega
def fgo (s : ByteArray) : Nat → Nat → Option (List Fd)
  | 0, p => if p < s.size then none else some []
  | f + 1, p => if p < s.size then (fieldS s p).bind fun r => (fgo s f r.2).map (r.1 :: ·) else some []
/-- The fields from a place on. -/
def fieldsS (s : ByteArray) (p : Nat) : Option (List Fd) := fgo s (s.size - p) p
theorem fgo_fuel (s : ByteArray) : ∀ f p, s.size - p ≤ f → fgo s f p = fieldsS s p := by
  intro f
  induction f using Nat.strongRecOn with
  | ind f ih =>
    intro p hp
    unfold fieldsS
    by_cases hlt : p < s.size
    · obtain ⟨k, hk⟩ : ∃ k, s.size - p = k + 1 := ⟨s.size - p - 1, by omega⟩
      obtain ⟨g, rfl⟩ : ∃ g, f = g + 1 := ⟨f - 1, by omega⟩
      rw [hk]
      simp only [fgo, if_pos hlt]
      cases e : fieldS s p with
      | none => rfl
      | some r =>
        have hb := fieldS_bd (show fieldS s p = some (r.1, r.2) by rw [e])
        simp only [Option.bind_some]
        rw [ih g (by omega) r.2 (by omega)]
        by_cases hkf : k < g + 1
        · rw [ih k hkf r.2 (by omega)]
        · rw [show k = g by omega, ih g (by omega) r.2 (by omega)]
    · have e : s.size - p = 0 := by omega
      rw [e]
      cases f with
      | zero => rfl
      | succ f => simp [fgo, hlt]
theorem fields_end {s : ByteArray} {p : Nat} (h : ¬ p < s.size) : fieldsS s p = some [] := by
  unfold fieldsS
  rw [show s.size - p = 0 by omega]
  simp [fgo, h]
theorem fields_bad {s : ByteArray} {p : Nat} (h : p < s.size) (hf : fieldS s p = none) : fieldsS s p = none := by
  unfold fieldsS
  rw [show s.size - p = (s.size - p - 1) + 1 by omega]
  simp [fgo, h, hf]
theorem fields_step {s : ByteArray} {p : Nat} (h : p < s.size) {f : Fd} {n : Nat} (hf : fieldS s p = some (f, n)) : fieldsS s p = (fieldsS s n).map (f :: ·) := by
  conv => lhs; unfold fieldsS
  rw [show s.size - p = (s.size - p - 1) + 1 by omega]
  simp only [fgo, if_pos h, hf, Option.bind_some]
  have := fieldS_bd hf
  rw [fgo_fuel s (s.size - p - 1) n (by omega)]
/-- In a loop: what has been read, and what is still to come. -/
theorem fields_more {s : ByteArray} {p : Nat} {l : List Fd} (h : p < s.size) {f : Fd} {n : Nat} (hf : fieldS s p = some (f, n)) (hr : (fieldsS s p).map (l ++ ·) = fieldsS s 0) : (fieldsS s n).map ((l ++ [f]) ++ ·) = fieldsS s 0 := by
  rw [← hr, fields_step h hf, Option.map_map]
  congr 1
  funext x
  simp
end Go.Proofs.Ytkcnpnnflbibiaa

/- Plain laws on the wire: two texts, one behind the other. No program in sight. -/
namespace Go.Proofs.Ytkcnpnnflbibiaa

theorem bt_left (s t : ByteArray) (k : Nat) (h : k < s.size) : bt (s ++ t) k = bt s k := by
  unfold bt
  have h1 : k < s.data.toList.length := by simpa using h
  rw [ByteArray.data_append, Array.toList_append, List.getD_eq_getElem?_getD, List.getD_eq_getElem?_getD, List.getElem?_append_left h1]
theorem bt_right (s t : ByteArray) (k : Nat) : bt (s ++ t) (s.size + k) = bt t k := by
  unfold bt
  have h1 : s.data.toList.length = s.size := by simp
  rw [ByteArray.data_append, Array.toList_append, List.getD_eq_getElem?_getD, List.getD_eq_getElem?_getD, List.getElem?_append_right (by omega), h1, show s.size + k - s.size = k by omega]
theorem size_app (s t : ByteArray) : (s ++ t).size = s.size + t.size := ByteArray.size_append

theorem nx_left (s t : ByteArray) (p i : Nat) (u : Int) (h : p + i < s.size) : nx (s ++ t) p i u = nx s p i u := by unfold nx; rw [bt_left s t _ h]
theorem nx_right (s t : ByteArray) (p i : Nat) (u : Int) : nx (s ++ t) (s.size + p) i u = nx t p i u := by unfold nx; rw [Nat.add_assoc, bt_right]
theorem tkGo_left (s t : ByteArray) (p : Nat) : ∀ f i u r, tkGo s p f i u = some r → tkGo (s ++ t) p f i u = some r := by
  intro f
  induction f with
  | zero => intro i u r h; simp [tkGo] at h
  | succ f ih =>
    intro i u r h
    unfold tkGo at h ⊢
    by_cases h1 : s.size ≤ p + i
    · simp [h1] at h
    · rw [if_neg h1] at h
      rw [if_neg (by rw [size_app]; omega), bt_left s t _ (by omega), nx_left s t p i u (by omega)]
      by_cases h2 : i = 9 ∧ 1 < bt s (p + i)
      · rw [if_pos h2] at h; cases h
      · rw [if_neg h2] at h ⊢
        by_cases h3 : bt s (p + i) < 128
        · rw [if_pos h3] at h ⊢; exact h
        · rw [if_neg h3] at h ⊢; exact ih _ _ _ h
theorem tkGo_right (s t : ByteArray) (p : Nat) : ∀ f i u, tkGo (s ++ t) (s.size + p) f i u = (tkGo t p f i u).map fun r => (r.1, s.size + r.2) := by
  intro f
  induction f with
  | zero => intro i u; simp [tkGo]
  | succ f ih =>
    intro i u
    unfold tkGo
    rw [size_app, show s.size + p + i = s.size + (p + i) by omega, bt_right, nx_right]
    by_cases h1 : t.size ≤ p + i
    · rw [if_pos (by omega), if_pos h1]; rfl
    · rw [if_neg (by omega), if_neg h1]
      by_cases h2 : i = 9 ∧ 1 < bt t (p + i)
      · rw [if_pos h2, if_pos h2]; rfl
      · rw [if_neg h2, if_neg h2]
        by_cases h3 : bt t (p + i) < 128
        · rw [if_pos h3, if_pos h3]; simp; omega
        · rw [if_neg h3, if_neg h3]; exact ih _ _
theorem tk_left {s : ByteArray} (t : ByteArray) {p : Nat} {r : Int × Nat} (h : tk s p = some r) : tk (s ++ t) p = some r := tkGo_left s t p 10 0 0 r h
theorem tk_right (s t : ByteArray) (p : Nat) : tk (s ++ t) (s.size + p) = (tk t p).map fun r => (r.1, s.size + r.2) := tkGo_right s t p 10 0 0
theorem lowS_left (s t : ByteArray) (n : Nat) : ∀ p, p + n ≤ s.size → lowS (s ++ t) p n = lowS s p n := by
  induction n with
  | zero => intro p _; rfl
  | succ n ih => intro p h; rw [lowS, lowS, bt_left s t _ (by omega), ih _ (by omega)]
theorem lowS_right (s t : ByteArray) (n : Nat) : ∀ p, lowS (s ++ t) (s.size + p) n = lowS t p n := by
  induction n with
  | zero => intro p; rfl
  | succ n ih => intro p; rw [lowS, lowS, bt_right, Nat.add_assoc, ih]
theorem list_ext (a b : ByteArray) (h : a.data.toList = b.data.toList) : a = b := by
  cases a; cases b; simp at h; simpa using h
theorem extract_left (s t : ByteArray) (p q : Nat) (h : q ≤ s.size) : (s ++ t).extract p q = s.extract p q := by
  apply list_ext
  have h1 : s.data.toList.length = s.size := by simp
  simp only [ByteArray.data_extract, Array.toList_extract, ByteArray.data_append, Array.toList_append, List.extract_eq_take_drop]
  rcases Nat.le_total p s.size with h2 | h2
  · rw [List.drop_append_of_le_length (by omega), List.take_append_of_le_length (by rw [List.length_drop]; omega)]
  · rw [show q - p = 0 by omega]; simp
theorem extract_right (s t : ByteArray) (p q : Nat) : (s ++ t).extract (s.size + p) (s.size + q) = t.extract p q := by
  apply list_ext
  have h1 : s.data.toList.length = s.size := by simp
  simp only [ByteArray.data_extract, Array.toList_extract, ByteArray.data_append, Array.toList_append, List.extract_eq_take_drop]
  rw [List.drop_append, List.drop_eq_nil_of_le (by omega), List.nil_append, h1, show s.size + p - s.size = p by omega, show s.size + q - (s.size + p) = q - p by omega]
theorem bodyS_left {s : ByteArray} (t : ByteArray) {hd : Int} {p : Nat} (hp : p ≤ s.size) {r : Fd × Nat} (h : bodyS s hd p = some r) : bodyS (s ++ t) hd p = some r := by
  unfold bodyS at h ⊢
  by_cases h0 : hd % 8 = 0
  · rw [if_pos h0] at h ⊢
    cases e : tk s p with
    | none => rw [e] at h; cases h
    | some x => rw [e] at h; rw [tk_left t e]; exact h
  · rw [if_neg h0] at h ⊢
    by_cases h1 : hd % 8 = 1
    · rw [if_pos h1] at h ⊢
      by_cases h2 : s.size < p + 8
      · rw [if_pos h2] at h; cases h
      · rw [if_neg h2] at h
        rw [if_neg (by rw [size_app]; omega), lowS_left s t 8 p (by omega)]
        exact h
    · rw [if_neg h1] at h ⊢
      by_cases h5 : hd % 8 = 5
      · rw [if_pos h5] at h ⊢
        by_cases h2 : s.size < p + 4
        · rw [if_pos h2] at h; cases h
        · rw [if_neg h2] at h
          rw [if_neg (by rw [size_app]; omega), lowS_left s t 4 p (by omega)]
          exact h
      · rw [if_neg h5] at h ⊢
        by_cases h2 : hd % 8 = 2
        · rw [if_pos h2] at h ⊢
          cases e : tk s p with
          | none => rw [e] at h; cases h
          | some x =>
            obtain ⟨u, n⟩ := x
            have hb := tk_bd e
            rw [e] at h
            rw [tk_left t e]
            simp only [Option.bind_some] at h ⊢
            by_cases h3 : (s.size : Int) - n < u
            · rw [if_pos h3] at h; cases h
            · rw [if_neg h3] at h
              rw [if_neg (by rw [size_app]; omega), extract_left s t _ _ (by omega)]
              exact h
        · rw [if_neg h2] at h; cases h
theorem bodyS_right (s t : ByteArray) (hd : Int) (p : Nat) : bodyS (s ++ t) hd (s.size + p) = (bodyS t hd p).map fun r => (r.1, s.size + r.2) := by
  unfold bodyS
  by_cases h0 : hd % 8 = 0
  · rw [if_pos h0, if_pos h0, tk_right]
    cases tk t p <;> rfl
  · rw [if_neg h0, if_neg h0]
    by_cases h1 : hd % 8 = 1
    · rw [if_pos h1, if_pos h1, size_app, lowS_right]
      by_cases h2 : t.size < p + 8
      · rw [if_pos h2, if_pos (by omega)]; rfl
      · rw [if_neg h2, if_neg (by omega)]; simp; omega
    · rw [if_neg h1, if_neg h1]
      by_cases h5 : hd % 8 = 5
      · rw [if_pos h5, if_pos h5, size_app, lowS_right]
        by_cases h2 : t.size < p + 4
        · rw [if_pos h2, if_pos (by omega)]; rfl
        · rw [if_neg h2, if_neg (by omega)]; simp; omega
      · rw [if_neg h5, if_neg h5]
        by_cases h2 : hd % 8 = 2
        · rw [if_pos h2, if_pos h2, tk_right]
          cases e : tk t p with
          | none => rfl
          | some x =>
            obtain ⟨u, n⟩ := x
            simp only [Option.map_some, Option.bind_some]
            rw [size_app]
            by_cases h3 : (t.size : Int) - n < u
            · rw [if_pos h3, if_pos (by omega)]; rfl
            · rw [if_neg h3, if_neg (by omega), Nat.add_assoc, extract_right]; simp
        · rw [if_neg h2, if_neg h2]; rfl
theorem fieldS_left {s : ByteArray} (t : ByteArray) {p : Nat} {r : Fd × Nat} (h : fieldS s p = some r) : fieldS (s ++ t) p = some r := by
  unfold fieldS at h ⊢
  cases e : tk s p with
  | none => rw [e] at h; cases h
  | some x =>
    obtain ⟨u, n⟩ := x
    have hb := tk_bd e
    rw [e] at h
    rw [tk_left t e]
    simp only [Option.bind_some] at h ⊢
    by_cases h3 : 4294967295 < u ∨ u < 8
    · rw [if_pos h3] at h; cases h
    · rw [if_neg h3] at h ⊢; exact bodyS_left t (by omega) h
theorem fieldS_right (s t : ByteArray) (p : Nat) : fieldS (s ++ t) (s.size + p) = (fieldS t p).map fun r => (r.1, s.size + r.2) := by
  unfold fieldS
  rw [tk_right]
  cases e : tk t p with
  | none => rfl
  | some x =>
    obtain ⟨u, n⟩ := x
    simp only [Option.map_some, Option.bind_some]
    by_cases h3 : 4294967295 < u ∨ u < 8
    · rw [if_pos h3, if_pos h3]; rfl
    · rw [if_neg h3, if_neg h3]; exact bodyS_right s t u n
theorem fgo_right (s t : ByteArray) : ∀ f p, fgo (s ++ t) f (s.size + p) = fgo t f p := by
  intro f
  induction f with
  | zero =>
    intro p
    unfold fgo
    rw [size_app]
    by_cases h : p < t.size
    · rw [if_pos h, if_pos (by omega)]
    · rw [if_neg h, if_neg (by omega)]
  | succ f ih =>
    intro p
    unfold fgo
    rw [size_app]
    by_cases h : p < t.size
    · rw [if_pos h, if_pos (by omega), fieldS_right]
      cases fieldS t p with
      | none => rfl
      | some r => simp only [Option.map_some, Option.bind_some]; rw [ih]
    · rw [if_neg h, if_neg (by omega)]
theorem fields_right (s t : ByteArray) : fieldsS (s ++ t) s.size = fieldsS t 0 := by
  rw [← fgo_fuel (s ++ t) (t.size - 0) s.size (by rw [size_app]; omega)]
  exact fgo_right s t (t.size - 0) 0
theorem fields_left (s t : ByteArray) : ∀ k p l, s.size - p ≤ k → p ≤ s.size → fieldsS s p = some l → fieldsS (s ++ t) p = (fieldsS t 0).map (l ++ ·) := by
  intro k
  induction k with
  | zero =>
    intro p l hk hp h
    obtain rfl : p = s.size := by omega
    rw [fields_end (by omega)] at h
    cases h
    rw [fields_right]
    cases fieldsS t 0 <;> simp
  | succ k ih =>
    intro p l hk hp h
    by_cases hlt : p < s.size
    · cases e : fieldS s p with
      | none => rw [fields_bad hlt e] at h; cases h
      | some r =>
        obtain ⟨f, n⟩ := r
        have hb := fieldS_bd e
        rw [fields_step hlt e] at h
        cases e2 : fieldsS s n with
        | none => rw [e2] at h; cases h
        | some m =>
          rw [e2] at h
          simp at h
          subst h
          rw [fields_step (by rw [size_app]; omega) (fieldS_left t e), ih n m (by omega) (by omega) e2]
          cases fieldsS t 0 <;> simp
    · obtain rfl : p = s.size := by omega
      rw [fields_end (by omega)] at h
      cases h
      rw [fields_right]
      cases fieldsS t 0 <;> simp
/-- THE LAW: what two texts say, their one text says. -/
theorem fields_joined {s t : ByteArray} {l m : List Fd} (h : fieldsS s 0 = some l) (g : fieldsS t 0 = some m) : fieldsS (s ++ t) 0 = some (l ++ m) := by
  rw [fields_left s t s.size 0 l (by omega) (by omega) h, g]; rfl
end Go.Proofs.Ytkcnpnnflbibiaa

/- Plain laws on lists of integers for the shape statements: counts, strides, offsets, coordinates, spreading. No program in sight. -/
namespace Go.Proofs.Ytkcnpnnflbibiaa

def ix (l : List Int) (j : Nat) : Int := l.getD j 0
def prod : List Int → Int
  | [] => 1
  | d :: r => d * prod r
def Pos (l : List Int) : Prop := ∀ d ∈ l, 1 ≤ d

theorem ix_zero (d : Int) (l : List Int) : ix (d :: l) 0 = d := rfl
theorem ix_succ (d : Int) (l : List Int) (j : Nat) : ix (d :: l) (j + 1) = ix l j := by simp [ix]
theorem ix_get (l : List Int) (j : Nat) (h : j < l.length) : ix l j = l[j] := by simp [ix, h]
theorem ix_get? (l : List Int) (j : Nat) (h : j < l.length) : l[j]? = some (ix l j) := by simp [ix, h]
theorem ix_mem (l : List Int) (j : Nat) (h : j < l.length) : ix l j ∈ l := by rw [ix_get l j h]; exact List.getElem_mem h
theorem take_ix (l : List Int) (k : Nat) (h : k < l.length) : l.take (k + 1) = l.take k ++ [ix l k] := by
  rw [List.take_succ_eq_append_getElem h, ix_get l k h]
theorem drop_ix (l : List Int) (k : Nat) (h : k < l.length) : l.drop k = ix l k :: l.drop (k + 1) := by
  rw [ix_get l k h]; exact List.drop_eq_getElem_cons h
theorem ix_append_left (a b : List Int) (j : Nat) (h : j < a.length) : ix (a ++ b) j = ix a j := by
  simp [ix, List.getElem?_append_left h]
theorem ix_append_right (a b : List Int) (j : Nat) : ix (a ++ b) (a.length + j) = ix b j := by
  simp [ix, List.getElem?_append_right]
theorem ix_drop (l : List Int) (k j : Nat) : ix (l.drop k) j = ix l (k + j) := by simp [ix]
theorem ix_take (l : List Int) (k j : Nat) (h : j < k) : ix (l.take k) j = ix l j := by simp [ix, h]
theorem pos_ix {l : List Int} (h : Pos l) (j : Nat) (hj : j < l.length) : 1 ≤ ix l j := h _ (ix_mem l j hj)
theorem pos_of_ix {l : List Int} (h : ∀ j, j < l.length → 1 ≤ ix l j) : Pos l := by
  intro d hd
  obtain ⟨j, hj, rfl⟩ := List.getElem_of_mem hd
  rw [← ix_get l j hj]; exact h j hj
theorem pos_drop {l : List Int} (h : Pos l) (k : Nat) : Pos (l.drop k) := fun d hd => h d (List.mem_of_mem_drop hd)
theorem pos_take {l : List Int} (h : Pos l) (k : Nat) : Pos (l.take k) := fun d hd => h d (List.mem_of_mem_take hd)
theorem pos_cons {d : Int} {l : List Int} (h : Pos (d :: l)) : 1 ≤ d ∧ Pos l := ⟨h d (by simp), fun x hx => h x (by simp [hx])⟩
theorem pos_append {a b : List Int} : Pos (a ++ b) ↔ Pos a ∧ Pos b := by
  constructor
  · intro h; exact ⟨fun d hd => h d (by simp [hd]), fun d hd => h d (by simp [hd])⟩
  · rintro ⟨h1, h2⟩ d hd
    rcases List.mem_append.1 hd with h | h
    · exact h1 d h
    · exact h2 d h

theorem ext_ix {a b : List Int} (hl : a.length = b.length) (h : ∀ j, j < a.length → ix a j = ix b j) : a = b := by
  apply List.ext_getElem hl
  intro j h1 h2
  have := h j h1
  rwa [ix_get a j h1, ix_get b j h2] at this

theorem prod_append (a b : List Int) : prod (a ++ b) = prod a * prod b := by
  induction a with
  | nil => simp [prod]
  | cons d r ih => simp [prod, ih, Int.mul_assoc]
theorem prod_pos {l : List Int} (h : Pos l) : 1 ≤ prod l := by
  induction l with
  | nil => simp [prod]
  | cons d r ih =>
    obtain ⟨h1, h2⟩ := pos_cons h
    have := ih h2
    simp only [prod]
    have h3 : 1 * 1 ≤ d * prod r := Int.mul_le_mul h1 this (by omega) (by omega)
    omega
theorem le_mul_pos {a b : Int} (ha : 0 ≤ a) (hb : 1 ≤ b) : a ≤ a * b := by
  have : a * 1 ≤ a * b := Int.mul_le_mul_of_nonneg_left hb ha
  omega
theorem le_pos_mul {a b : Int} (ha : 0 ≤ a) (hb : 1 ≤ b) : a ≤ b * a := by rw [Int.mul_comm]; exact le_mul_pos ha hb
theorem prod_take_le {l : List Int} (h : Pos l) (k : Nat) : prod (l.take k) ≤ prod l := by
  have e := prod_append (l.take k) (l.drop k)
  rw [List.take_append_drop] at e
  rw [e]
  exact le_mul_pos (by have := prod_pos (pos_take h k); omega) (prod_pos (pos_drop h k))
theorem prod_drop_le {l : List Int} (h : Pos l) (k : Nat) : prod (l.drop k) ≤ prod l := by
  have e := prod_append (l.take k) (l.drop k)
  rw [List.take_append_drop] at e
  rw [e]
  exact le_pos_mul (by have := prod_pos (pos_drop h k); omega) (prod_pos (pos_take h k))
theorem prod_take_succ (l : List Int) (k : Nat) (h : k < l.length) : prod (l.take (k + 1)) = prod (l.take k) * ix l k := by
  rw [take_ix l k h, prod_append]; simp [prod]
theorem prod_drop_succ (l : List Int) (k : Nat) (h : k < l.length) : prod (l.drop k) = ix l k * prod (l.drop (k + 1)) := by
  rw [drop_ix l k h]; rfl

/-! ### Count -/
def errC (l : List Int) : Int := if l.any (fun d => decide (d < 1)) then 4 else if 6 < l.length then 6 else if 65536 < prod l then 6 else 0
def CountIs (l : List Int) (n err : Int) : Prop := errC l = err ∧ n = if err = 0 then prod l else 0
/-- A list of dimensions that may be. -/
def Good (l : List Int) : Prop := Pos l ∧ l.length ≤ 6 ∧ prod l ≤ 65536

theorem any_lt_iff (l : List Int) : l.any (fun d => decide (d < 1)) = true ↔ ¬ Pos l := by
  simp only [List.any_eq_true, decide_eq_true_eq, Pos]
  constructor
  · rintro ⟨d, hd, h⟩ hp; have := hp d hd; omega
  · intro h
    apply Classical.byContradiction
    intro hn
    apply h
    intro d hd
    apply Classical.byContradiction
    intro h1
    exact hn ⟨d, hd, by omega⟩
theorem countIs_good {l : List Int} (h : Good l) : CountIs l (prod l) 0 := by
  obtain ⟨h1, h2, h3⟩ := h
  have h0 : l.any (fun d => decide (d < 1)) = false := by
    cases e : l.any (fun d => decide (d < 1))
    · rfl
    · exact absurd h1 ((any_lt_iff l).1 e)
  refine ⟨?_, by simp⟩
  unfold errC
  rw [h0, if_neg (by simp), if_neg (by omega), if_neg (by omega)]
theorem countIs_4 {l : List Int} (h : ¬ Pos l) : CountIs l 0 4 := by
  refine ⟨?_, by simp⟩
  unfold errC
  rw [if_pos ((any_lt_iff l).2 h)]
theorem countIs_6 {l : List Int} (h1 : Pos l) (h2 : 6 < l.length ∨ 65536 < prod l) : CountIs l 0 6 := by
  have h0 : l.any (fun d => decide (d < 1)) = false := by
    cases e : l.any (fun d => decide (d < 1))
    · rfl
    · exact absurd h1 ((any_lt_iff l).1 e)
  refine ⟨?_, by simp⟩
  unfold errC
  rw [h0, if_neg (by simp)]
  by_cases h6 : 6 < l.length
  · rw [if_pos h6]
  · rw [if_neg h6, if_pos (by omega)]
/-- Three ways. -/
theorem count_ways (l : List Int) : (Good l ∧ CountIs l (prod l) 0) ∨ (¬ Good l ∧ ¬ Pos l ∧ CountIs l 0 4) ∨ (¬ Good l ∧ Pos l ∧ (6 < l.length ∨ 65536 < prod l) ∧ CountIs l 0 6) := by
  by_cases h1 : Pos l
  · by_cases h2 : l.length ≤ 6
    · by_cases h3 : prod l ≤ 65536
      · exact .inl ⟨⟨h1, h2, h3⟩, countIs_good ⟨h1, h2, h3⟩⟩
      · exact .inr (.inr ⟨fun h => h3 h.2.2, h1, .inr (by omega), countIs_6 h1 (.inr (by omega))⟩)
    · exact .inr (.inr ⟨fun h => h2 h.2.1, h1, .inl (by omega), countIs_6 h1 (.inl (by omega))⟩)
  · exact .inr (.inl ⟨fun h => h1 h.1, h1, countIs_4 h1⟩)
def zeros (n : Nat) : List Int := List.replicate n 0
theorem zeros_length (n : Nat) : (zeros n).length = n := by simp [zeros]
theorem zeros_succ (n : Nat) : zeros (n + 1) = zeros n ++ [0] := by simp [zeros, List.replicate_succ']
end Go.Proofs.Ytkcnpnnflbibiaa
