/- Plain laws on the wire: numbers read from bytes. No program in sight. -/
namespace Go.Proofs.Ytpnieegaemfffaa

/-- The byte at a place, as a number. -/
def bt (s : ByteArray) (k : Nat) : Int := ((s.data.toList.getD k 0).toNat : Int)
theorem bt_bd (s : ByteArray) (k : Nat) : 0 ≤ bt s k ∧ bt s k ≤ 255 := by
  have h := (s.data.toList.getD k 0).toNat_lt
  unfold bt; omega
theorem bt_get (s : ByteArray) (k : Nat) (h : k < s.size) : ((s[k]'h).toNat : Int) = bt s k := by
  unfold bt
  have h1 : k < s.data.toList.length := by simpa using h
  rw [List.getD_eq_getElem?_getD, List.getElem?_eq_getElem h1]
  rfl

def two (i : Nat) : Int := 2 ^ (7 * i)
theorem two_pos (i : Nat) : 1 ≤ two i := by
  unfold two
  have : (0 : Int) < 2 ^ (7 * i) := Int.pow_pos (by omega)
  omega
theorem two_succ (i : Nat) : two (i + 1) = 128 * two i := by
  unfold two; rw [show 7 * (i + 1) = 7 * i + 7 by omega, Int.pow_add]; omega
/-- One more byte of a number. -/
def nx (s : ByteArray) (p i : Nat) (u : Int) : Int := u + bt s (p + i) % 128 * two i
def tkGo (s : ByteArray) (p : Nat) : Nat → Nat → Int → Option (Int × Nat)
  | 0, _, _ => none
  | f + 1, i, u =>
    if s.size ≤ p + i then none else if i = 9 ∧ 1 < bt s (p + i) then none else
    if bt s (p + i) < 128 then some (nx s p i u, p + i + 1) else tkGo s p f (i + 1) (nx s p i u)
/-- The number that begins at p, and the place behind it. -/
def tk (s : ByteArray) (p : Nat) : Option (Int × Nat) := tkGo s p 10 0 0

def B64 : Int := 18446744073709551616
theorem nx_bd (s : ByteArray) (p i : Nat) (u : Int) (h0 : 0 ≤ u) (h1 : u < two i) : 0 ≤ nx s p i u ∧ nx s p i u < two (i + 1) := by
  have hb := bt_bd s (p + i)
  have ht := two_pos i
  have h2 : 0 ≤ bt s (p + i) % 128 * two i := Int.mul_nonneg (by omega) (by omega)
  have h3 : bt s (p + i) % 128 * two i ≤ 127 * two i := Int.mul_le_mul_of_nonneg_right (by omega) (by omega)
  rw [two_succ]
  unfold nx
  omega
theorem two_9 : two 9 = 9223372036854775808 := by decide
theorem two_le (i j : Nat) (h : i ≤ j) : two i ≤ two j := by
  induction j with
  | zero => rw [show i = 0 by omega]; omega
  | succ j ih =>
    rcases Nat.lt_or_ge i (j + 1) with h1 | h1
    · have := ih (by omega); have := two_pos j; rw [two_succ]; omega
    · rw [show i = j + 1 by omega]; omega
theorem nx_64 (s : ByteArray) (p i : Nat) (u : Int) (hi : i ≤ 9) (h0 : 0 ≤ u) (h1 : u < two i) (h9 : ¬ (i = 9 ∧ 1 < bt s (p + i))) : 0 ≤ nx s p i u ∧ nx s p i u < B64 := by
  obtain ⟨a, b⟩ := nx_bd s p i u h0 h1
  refine ⟨a, ?_⟩
  by_cases e : i = 9
  · subst e
    have hb := bt_bd s (p + 9)
    unfold nx at *
    rw [two_9] at *
    have : bt s (p + 9) % 128 = bt s (p + 9) := by omega
    rw [this]
    unfold B64; omega
  · have h2 := two_le (i + 1) 9 (by omega)
    rw [two_9] at h2
    unfold B64; omega
/-- What is added, by itself. -/
theorem part_bd (s : ByteArray) (p i : Nat) (u : Int) (hi : i ≤ 9) (h0 : 0 ≤ u) (h1 : u < two i) (h9 : ¬ (i = 9 ∧ 1 < bt s (p + i))) : 0 ≤ bt s (p + i) % 128 * two i ∧ bt s (p + i) % 128 * two i < B64 := by
  obtain ⟨a, b⟩ := nx_64 s p i u hi h0 h1 h9
  unfold nx at b
  have hb := bt_bd s (p + i)
  have := two_pos i
  exact ⟨Int.mul_nonneg (by omega) (by omega), by omega⟩
theorem tkGo_bd (s : ByteArray) (p : Nat) (f : Nat) : ∀ i u, i + f ≤ 10 → 0 ≤ u → u < two i → ∀ v n, tkGo s p f i u = some (v, n) → 0 ≤ v ∧ v < B64 ∧ p + i < n ∧ n ≤ s.size ∧ n ≤ p + i + f := by
  induction f with
  | zero => intro i u _ _ _ v n h; simp [tkGo] at h
  | succ f ih =>
    intro i u hf h0 h1 v n h
    unfold tkGo at h
    split at h
    · simp at h
    · next hs =>
      split at h
      · simp at h
      · next h9 =>
        obtain ⟨a, b⟩ := nx_64 s p i u (by omega) h0 h1 h9
        split at h
        · simp only [Option.some.injEq, Prod.mk.injEq] at h
          obtain ⟨rfl, rfl⟩ := h
          exact ⟨a, b, by omega, by omega, by omega⟩
        · have := ih (i + 1) (nx s p i u) (by omega) a (nx_bd s p i u h0 h1).2 v n h
          omega
theorem tk_bd {s : ByteArray} {p : Nat} {v : Int} {n : Nat} (h : tk s p = some (v, n)) : 0 ≤ v ∧ v < B64 ∧ p < n ∧ n ≤ s.size := by
  have := tkGo_bd s p 10 0 0 (by omega) (by omega) (by decide) v n h
  omega

/-! ### Numbers written -/
def vencF : Nat → Int → List Int
  | 0, u => [u % 256]
  | f + 1, u => if u < 128 then [u % 256] else (u % 128 + 128) :: vencF f (u / 128)
/-- The form of a number. -/
def venc (u : Int) : List Int := vencF 9 u
theorem vencF_stop (f : Nat) (u : Int) (h : u < 128) : vencF f u = [u % 256] := by cases f <;> simp [vencF, h]
theorem vencF_more (f : Nat) (u : Int) (h : ¬ u < 128) : vencF (f + 1) u = (u % 128 + 128) :: vencF f (u / 128) := by simp [vencF, h]
theorem vencF_byte (f : Nat) : ∀ u, 0 ≤ u → ∀ x ∈ vencF f u, 0 ≤ x ∧ x < 256 := by
  induction f with
  | zero => intro u _ x hx; simp [vencF] at hx; omega
  | succ f ih =>
    intro u h0 x hx
    by_cases h : u < 128
    · rw [vencF_stop _ _ h] at hx; simp at hx; omega
    · rw [vencF_more _ _ h] at hx
      rcases List.mem_cons.1 hx with h1 | h1
      · omega
      · exact ih (u / 128) (by omega) x h1
theorem vencF_len (f : Nat) : ∀ u, 1 ≤ (vencF f u).length ∧ (vencF f u).length ≤ f + 1 := by
  induction f with
  | zero => intro u; simp [vencF]
  | succ f ih =>
    intro u
    by_cases h : u < 128
    · rw [vencF_stop _ _ h]; simp
    · rw [vencF_more _ _ h]; have := ih (u / 128); simp; omega

/-! ### Fixed numbers -/
/-- So many bytes at a place, the lowest eight bits first. -/
def lowS (s : ByteArray) : Nat → Nat → Int
  | _, 0 => 0
  | p, n + 1 => bt s p + 256 * lowS s (p + 1) n
theorem lowS_bd (s : ByteArray) (p n : Nat) : 0 ≤ lowS s p n ∧ lowS s p n < 256 ^ n := by
  induction n generalizing p with
  | zero => simp [lowS]
  | succ n ih =>
    have h := ih (p + 1)
    have hb := bt_bd s p
    rw [lowS, Int.pow_succ]
    omega
theorem pow256_le (i j : Nat) (h : i ≤ j) : (256 : Int) ^ i ≤ 256 ^ j := by
  induction j with
  | zero => rw [show i = 0 by omega]; exact Int.le_refl _
  | succ j ih =>
    rcases Nat.lt_or_ge i (j + 1) with h1 | h1
    · have h2 := ih (by omega)
      have h3 : (0 : Int) < 256 ^ j := Int.pow_pos (by omega)
      rw [Int.pow_succ]; omega
    · rw [show i = j + 1 by omega]; exact Int.le_refl _
theorem lowS_64 (s : ByteArray) (p n : Nat) (h : n ≤ 7) : lowS s p n * 256 < B64 := by
  have h1 := (lowS_bd s p n).2
  have h2 := pow256_le n 7 h
  have h3 : (256 : Int) ^ 7 = 72057594037927936 := by decide
  unfold B64; omega
theorem bt_extract (s : ByteArray) (p q k : Nat) (h : p + k < q) (hq : q ≤ s.size) : bt (s.extract p q) k = bt s (p + k) := by
  have h1 : k < (s.extract p q).size := by simp; omega
  rw [← bt_get _ k h1, ← bt_get s (p + k) (by omega)]
  congr 2
  exact ByteArray.getElem_extract h1

/-! ### Fields -/
/-- A field. -/
structure Fd where
  num : Int
  kind : Int
  u : Int
  b : ByteArray
/-- What stands behind a head. -/
def bodyS (s : ByteArray) (head : Int) (p : Nat) : Option (Fd × Nat) :=
  if head % 8 = 0 then (tk s p).map fun r => (⟨head / 8, 0, r.1, ⟨#[]⟩⟩, r.2)
  else if head % 8 = 1 then (if s.size < p + 8 then none else some (⟨head / 8, 1, lowS s p 8, ⟨#[]⟩⟩, p + 8))
  else if head % 8 = 5 then (if s.size < p + 4 then none else some (⟨head / 8, 5, lowS s p 4, ⟨#[]⟩⟩, p + 4))
  else if head % 8 = 2 then (tk s p).bind fun r => if (s.size : Int) - r.2 < r.1 then none else some (⟨head / 8, 2, 0, s.extract r.2 (r.2 + r.1.toNat)⟩, r.2 + r.1.toNat)
  else none
/-- The field that begins at a place, and the place behind it. -/
def fieldS (s : ByteArray) (p : Nat) : Option (Fd × Nat) :=
  (tk s p).bind fun r => if 4294967295 < r.1 ∨ r.1 < 8 then none else bodyS s r.1 r.2
theorem bodyS_bd {s : ByteArray} {hd : Int} {p : Nat} (hp : p ≤ s.size) {f : Fd} {n : Nat} (h : bodyS s hd p = some (f, n)) : p ≤ n ∧ n ≤ s.size := by
  unfold bodyS at h
  split at h
  · cases e : tk s p with
    | none => rw [e] at h; simp at h
    | some r =>
      rw [e] at h
      simp at h
      have := tk_bd (show tk s p = some (r.1, r.2) by rw [e])
      omega
  · split at h
    · split at h
      · simp at h
      · simp at h; omega
    · split at h
      · split at h
        · simp at h
        · simp at h; omega
      · split at h
        · cases e : tk s p with
          | none => rw [e] at h; simp at h
          | some r =>
            rw [e] at h
            simp only [Option.bind_some] at h
            have := tk_bd (show tk s p = some (r.1, r.2) by rw [e])
            split at h
            · simp at h
            · simp at h; omega
        · simp at h
theorem fieldS_bd {s : ByteArray} {p : Nat} {f : Fd} {n : Nat} (h : fieldS s p = some (f, n)) : p < n ∧ n ≤ s.size := by
  unfold fieldS at h
  cases e : tk s p with
  | none => rw [e] at h; simp at h
  | some r =>
    rw [e] at h
    simp only [Option.bind_some] at h
    have h1 := tk_bd (show tk s p = some (r.1, r.2) by rw [e])
    split at h
    · simp at h
    · have h2 := bodyS_bd h1.2.2.2 h
      omega
def fgo (s : ByteArray) : Nat → Nat → Option (List Fd)
  | 0, p => if p < s.size then none else some []
  | f + 1, p => if p < s.size then (fieldS s p).bind fun r => (fgo s f r.2).map (r.1 :: ·) else some []
/-- The fields from a place on. -/
def fieldsS (s : ByteArray) (p : Nat) : Option (List Fd) := fgo s (s.size - p) p
theorem fgo_fuel (s : ByteArray) : ∀ f p, s.size - p ≤ f → fgo s f p = fieldsS s p := by
  intro f
  induction f using Nat.strongRecOn with
  | ind f ih =>
    intro p hp
    unfold fieldsS
    by_cases hlt : p < s.size
    · obtain ⟨k, hk⟩ : ∃ k, s.size - p = k + 1 := ⟨s.size - p - 1, by omega⟩
      obtain ⟨g, rfl⟩ : ∃ g, f = g + 1 := ⟨f - 1, by omega⟩
      rw [hk]
      simp only [fgo, if_pos hlt]
      cases e : fieldS s p with
      | none => rfl
      | some r =>
        have hb := fieldS_bd (show fieldS s p = some (r.1, r.2) by rw [e])
        simp only [Option.bind_some]
        rw [ih g (by omega) r.2 (by omega)]
        by_cases hkf : k < g + 1
        · rw [ih k hkf r.2 (by omega)]
        · rw [show k = g by omega, ih g (by omega) r.2 (by omega)]
    · have e : s.size - p = 0 := by omega
      rw [e]
      cases f with
      | zero => rfl
      | succ f => simp [fgo, hlt]
theorem fields_end {s : ByteArray} {p : Nat} (h : ¬ p < s.size) : fieldsS s p = some [] := by
  unfold fieldsS
  rw [show s.size - p = 0 by omega]
  simp [fgo, h]
theorem fields_bad {s : ByteArray} {p : Nat} (h : p < s.size) (hf : fieldS s p = none) : fieldsS s p = none := by
  unfold fieldsS
  rw [show s.size - p = (s.size - p - 1) + 1 by omega]
  simp [fgo, h, hf]
theorem fields_step {s : ByteArray} {p : Nat} (h : p < s.size) {f : Fd} {n : Nat} (hf : fieldS s p = some (f, n)) : fieldsS s p = (fieldsS s n).map (f :: ·) := by
  conv => lhs; unfold fieldsS
  rw [show s.size - p = (s.size - p - 1) + 1 by omega]
  simp only [fgo, if_pos h, hf, Option.bind_some]
  have := fieldS_bd hf
  rw [fgo_fuel s (s.size - p - 1) n (by omega)]
/-- In a loop: what has been read, and what is still to come. -/
theorem fields_more {s : ByteArray} {p : Nat} {l : List Fd} (h : p < s.size) {f : Fd} {n : Nat} (hf : fieldS s p = some (f, n)) (hr : (fieldsS s p).map (l ++ ·) = fieldsS s 0) : (fieldsS s n).map ((l ++ [f]) ++ ·) = fieldsS s 0 := by
  rw [← hr, fields_step h hf, Option.map_map]
  congr 1
  funext x
  simp
end Go.Proofs.Ytpnieegaemfffaa
