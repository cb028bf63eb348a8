import Derived.Test.YtbilddeepnnogaaGreatDoorBam
import Derived.Lib.EndianBits
import Derived.Deep.QuietTactic
import Derived.BigQuiet
import Derived.Deep.RegionWith
import Derived.Laws.BytesArg
import Derived.Defers
import Derived.Recover
import Derived.Deep.RegionHeld3
import Derived.Deep.AppendLies
import Derived.Deep.LoopGhost
import Derived.Deep.RegionLaw
set_option linter.unusedVariables false
set_option linter.unusedSimpArgs false
/- Layer 4, the wire: numbers, the cursor. -/
section
set_option linter.unusedVariables false
set_option maxRecDepth 100000
namespace Go.Proofs.YtbilddeepnnogaaGreatDoor
open Go.RowKit

/-- The byte at a place, as a number. -/
def bt (s : ByteArray) (k : Nat) : Int := ((s.data.toList.getD k 0).toNat : Int)
theorem bt_bd (s : ByteArray) (k : Nat) : 0 ≤ bt s k ∧ bt s k ≤ 255 := by
  have h := (s.data.toList.getD k 0).toNat_lt
  unfold bt; omega
theorem bt_get (s : ByteArray) (k : Nat) (h : k < s.size) : ((s[k]'h).toNat : Int) = bt s k := by
  unfold bt
  have h1 : k < s.data.toList.length := by simpa using h
  rw [List.getD_eq_getElem?_getD, List.getElem?_eq_getElem h1]
  rfl

def two (i : Nat) : Int := 2 ^ (7 * i)
theorem two_pos (i : Nat) : 1 ≤ two i := by
  unfold two
  have : (0 : Int) < 2 ^ (7 * i) := Int.pow_pos (by omega)
  omega
theorem two_succ (i : Nat) : two (i + 1) = 128 * two i := by
  unfold two; rw [show 7 * (i + 1) = 7 * i + 7 by omega, Int.pow_add]; omega
/-- One more byte of a number. -/
def nx (s : ByteArray) (p i : Nat) (u : Int) : Int := u + bt s (p + i) % 128 * two i
def tkGo (s : ByteArray) (p : Nat) : Nat → Nat → Int → Option (Int × Nat)
  | 0, _, _ => none
  | f + 1, i, u =>
    if s.size ≤ p + i then none else if i = 9 ∧ 1 < bt s (p + i) then none else
    if bt s (p + i) < 128 then some (nx s p i u, p + i + 1) else tkGo s p f (i + 1) (nx s p i u)
/-- The number that begins at p, and the place behind it. -/
def tk (s : ByteArray) (p : Nat) : Option (Int × Nat) := tkGo s p 10 0 0

def B64 : Int := 18446744073709551616
theorem nx_bd (s : ByteArray) (p i : Nat) (u : Int) (h0 : 0 ≤ u) (h1 : u < two i) : 0 ≤ nx s p i u ∧ nx s p i u < two (i + 1) := by
  have hb := bt_bd s (p + i)
  have ht := two_pos i
  have h2 : 0 ≤ bt s (p + i) % 128 * two i := Int.mul_nonneg (by omega) (by omega)
  have h3 : bt s (p + i) % 128 * two i ≤ 127 * two i := Int.mul_le_mul_of_nonneg_right (by omega) (by omega)
  rw [two_succ]
  unfold nx
  omega
theorem two_9 : two 9 = 9223372036854775808 := by decide
theorem two_le (i j : Nat) (h : i ≤ j) : two i ≤ two j := by
  induction j with
  | zero => rw [show i = 0 by omega]; omega
  | succ j ih =>
    rcases Nat.lt_or_ge i (j + 1) with h1 | h1
    · have := ih (by omega); have := two_pos j; rw [two_succ]; omega
    · rw [show i = j + 1 by omega]; omega
theorem nx_64 (s : ByteArray) (p i : Nat) (u : Int) (hi : i ≤ 9) (h0 : 0 ≤ u) (h1 : u < two i) (h9 : ¬ (i = 9 ∧ 1 < bt s (p + i))) : 0 ≤ nx s p i u ∧ nx s p i u < B64 := by
  obtain ⟨a, b⟩ := nx_bd s p i u h0 h1
  refine ⟨a, ?_⟩
  by_cases e : i = 9
  · subst e
    have hb := bt_bd s (p + 9)
    unfold nx at *
    rw [two_9] at *
    have : bt s (p + 9) % 128 = bt s (p + 9) := by omega
    rw [this]
    unfold B64; omega
  · have h2 := two_le (i + 1) 9 (by omega)
    rw [two_9] at h2
    unfold B64; omega
/-- What is added, by itself. -/
theorem part_bd (s : ByteArray) (p i : Nat) (u : Int) (hi : i ≤ 9) (h0 : 0 ≤ u) (h1 : u < two i) (h9 : ¬ (i = 9 ∧ 1 < bt s (p + i))) : 0 ≤ bt s (p + i) % 128 * two i ∧ bt s (p + i) % 128 * two i < B64 := by
  obtain ⟨a, b⟩ := nx_64 s p i u hi h0 h1 h9
  unfold nx at b
  have hb := bt_bd s (p + i)
  have := two_pos i
  exact ⟨Int.mul_nonneg (by omega) (by omega), by omega⟩
theorem tkGo_bd (s : ByteArray) (p : Nat) (f : Nat) : ∀ i u, i + f ≤ 10 → 0 ≤ u → u < two i → ∀ v n, tkGo s p f i u = some (v, n) → 0 ≤ v ∧ v < B64 ∧ p + i < n ∧ n ≤ s.size ∧ n ≤ p + i + f := by
  induction f with
  | zero => intro i u _ _ _ v n h; simp [tkGo] at h
  | succ f ih =>
    intro i u hf h0 h1 v n h
    unfold tkGo at h
    split at h
    · simp at h
    · next hs =>
      split at h
      · simp at h
      · next h9 =>
        obtain ⟨a, b⟩ := nx_64 s p i u (by omega) h0 h1 h9
        split at h
        · simp only [Option.some.injEq, Prod.mk.injEq] at h
          obtain ⟨rfl, rfl⟩ := h
          exact ⟨a, b, by omega, by omega, by omega⟩
        · have := ih (i + 1) (nx s p i u) (by omega) a (nx_bd s p i u h0 h1).2 v n h
          omega
theorem tk_bd {s : ByteArray} {p : Nat} {v : Int} {n : Nat} (h : tk s p = some (v, n)) : 0 ≤ v ∧ v < B64 ∧ p < n ∧ n ≤ s.size := by
  have := tkGo_bd s p 10 0 0 (by omega) (by omega) (by decide) v n h
  omega

def vencF : Nat → Int → List Int
  | 0, u => [u % 256]
  | f + 1, u => if u < 128 then [u % 256] else (u % 128 + 128) :: vencF f (u / 128)
/-- The form of a number. -/
def venc (u : Int) : List Int := vencF 9 u
theorem vencF_stop (f : Nat) (u : Int) (h : u < 128) : vencF f u = [u % 256] := by cases f <;> simp [vencF, h]
theorem vencF_more (f : Nat) (u : Int) (h : ¬ u < 128) : vencF (f + 1) u = (u % 128 + 128) :: vencF f (u / 128) := by simp [vencF, h]
theorem vencF_byte (f : Nat) : ∀ u, 0 ≤ u → ∀ x ∈ vencF f u, 0 ≤ x ∧ x < 256 := by
  induction f with
  | zero => intro u _ x hx; simp [vencF] at hx; omega
  | succ f ih =>
    intro u h0 x hx
    by_cases h : u < 128
    · rw [vencF_stop _ _ h] at hx; simp at hx; omega
    · rw [vencF_more _ _ h] at hx
      rcases List.mem_cons.1 hx with h1 | h1
      · omega
      · exact ih (u / 128) (by omega) x h1
theorem vencF_len (f : Nat) : ∀ u, 1 ≤ (vencF f u).length ∧ (vencF f u).length ≤ f + 1 := by
  induction f with
  | zero => intro u; simp [vencF]
  | succ f ih =>
    intro u
    by_cases h : u < 128
    · rw [vencF_stop _ _ h]; simp
    · rw [vencF_more _ _ h]; have := ih (u / 128); simp; omega

/-- So many bytes at a place, the lowest eight bits first. -/
def lowS (s : ByteArray) : Nat → Nat → Int
  | _, 0 => 0
  | p, n + 1 => bt s p + 256 * lowS s (p + 1) n
theorem lowS_bd (s : ByteArray) (p n : Nat) : 0 ≤ lowS s p n ∧ lowS s p n < 256 ^ n := by
  induction n generalizing p with
  | zero => simp [lowS]
  | succ n ih =>
    have h := ih (p + 1)
    have hb := bt_bd s p
    rw [lowS, Int.pow_succ]
    omega
theorem pow256_le (i j : Nat) (h : i ≤ j) : (256 : Int) ^ i ≤ 256 ^ j := by
  induction j with
  | zero => rw [show i = 0 by omega]; exact Int.le_refl _
  | succ j ih =>
    rcases Nat.lt_or_ge i (j + 1) with h1 | h1
    · have h2 := ih (by omega)
      have h3 : (0 : Int) < 256 ^ j := Int.pow_pos (by omega)
      rw [Int.pow_succ]; omega
    · rw [show i = j + 1 by omega]; exact Int.le_refl _
theorem lowS_64 (s : ByteArray) (p n : Nat) (h : n ≤ 7) : lowS s p n * 256 < B64 := by
  have h1 := (lowS_bd s p n).2
  have h2 := pow256_le n 7 h
  have h3 : (256 : Int) ^ 7 = 72057594037927936 := by decide
  unfold B64; omega
theorem bt_extract (s : ByteArray) (p q k : Nat) (h : p + k < q) (hq : q ≤ s.size) : bt (s.extract p q) k = bt s (p + k) := by
  have h1 : k < (s.extract p q).size := by simp; omega
  rw [← bt_get _ k h1, ← bt_get s (p + k) (by omega)]
  congr 2
  exact ByteArray.getElem_extract h1

/-- A field. -/
structure Fd where
  num : Int
  kind : Int
  u : Int
  b : ByteArray
/-- What stands behind a head. -/
def bodyS (s : ByteArray) (head : Int) (p : Nat) : Option (Fd × Nat) :=
  if head % 8 = 0 then (tk s p).map fun r => (⟨head / 8, 0, r.1, ⟨#[]⟩⟩, r.2)
  else if head % 8 = 1 then (if s.size < p + 8 then none else some (⟨head / 8, 1, lowS s p 8, ⟨#[]⟩⟩, p + 8))
  else if head % 8 = 5 then (if s.size < p + 4 then none else some (⟨head / 8, 5, lowS s p 4, ⟨#[]⟩⟩, p + 4))
  else if head % 8 = 2 then (tk s p).bind fun r => if (s.size : Int) - r.2 < r.1 then none else some (⟨head / 8, 2, 0, s.extract r.2 (r.2 + r.1.toNat)⟩, r.2 + r.1.toNat)
  else none
/-- The field that begins at a place, and the place behind it. -/
def fieldS (s : ByteArray) (p : Nat) : Option (Fd × Nat) :=
  (tk s p).bind fun r => if 4294967295 < r.1 ∨ r.1 < 8 then none else bodyS s r.1 r.2
theorem bodyS_bd {s : ByteArray} {hd : Int} {p : Nat} (hp : p ≤ s.size) {f : Fd} {n : Nat} (h : bodyS s hd p = some (f, n)) : p ≤ n ∧ n ≤ s.size := by
  unfold bodyS at h
  split at h
  · cases e : tk s p with
    | none => rw [e] at h; simp at h
    | some r =>
      rw [e] at h
      simp at h
      have := tk_bd (show tk s p = some (r.1, r.2) by rw [e])
      omega
  · split at h
    · split at h
      · simp at h
      · simp at h; omega
    · split at h
      · split at h
        · simp at h
        · simp at h; omega
      · split at h
        · cases e : tk s p with
          | none => rw [e] at h; simp at h
          | some r =>
            rw [e] at h
            simp only [Option.bind_some] at h
            have := tk_bd (show tk s p = some (r.1, r.2) by rw [e])
            split at h
            · simp at h
            · simp at h; omega
        · simp at h
theorem fieldS_bd {s : ByteArray} {p : Nat} {f : Fd} {n : Nat} (h : fieldS s p = some (f, n)) : p < n ∧ n ≤ s.size := by
  unfold fieldS at h
  cases e : tk s p with
  | none => rw [e] at h; simp at h
  | some r =>
    rw [e] at h
    simp only [Option.bind_some] at h
    have h1 := tk_bd (show tk s p = some (r.1, r.2) by rw [e])
    split at h
    · simp at h
    · have h2 := bodyS_bd h1.2.2.2 h
      omega
def fgo (s : ByteArray) : Nat → Nat → Option (List Fd)
  | 0, p => if p < s.size then none else some []
  | f + 1, p => if p < s.size then (fieldS s p).bind fun r => (fgo s f r.2).map (r.1 :: ·) else some []
/-- The fields from a place on. -/
def fieldsS (s : ByteArray) (p : Nat) : Option (List Fd) := fgo s (s.size - p) p
theorem fgo_fuel (s : ByteArray) : ∀ f p, s.size - p ≤ f → fgo s f p = fieldsS s p := by
  intro f
  induction f using Nat.strongRecOn with
  | ind f ih =>
    intro p hp
    unfold fieldsS
    by_cases hlt : p < s.size
    · obtain ⟨k, hk⟩ : ∃ k, s.size - p = k + 1 := ⟨s.size - p - 1, by omega⟩
      obtain ⟨g, rfl⟩ : ∃ g, f = g + 1 := ⟨f - 1, by omega⟩
      rw [hk]
      simp only [fgo, if_pos hlt]
      cases e : fieldS s p with
      | none => rfl
      | some r =>
        have hb := fieldS_bd (show fieldS s p = some (r.1, r.2) by rw [e])
        simp only [Option.bind_some]
        rw [ih g (by omega) r.2 (by omega)]
        by_cases hkf : k < g + 1
        · rw [ih k hkf r.2 (by omega)]
        · rw [show k = g by omega, ih g (by omega) r.2 (by omega)]
    · have e : s.size - p = 0 := by omega
      rw [e]
      cases f with
      | zero => rfl
      | succ f => simp [fgo, hlt]
theorem fields_end {s : ByteArray} {p : Nat} (h : ¬ p < s.size) : fieldsS s p = some [] := by
  unfold fieldsS
  rw [show s.size - p = 0 by omega]
  simp [fgo, h]
theorem fields_bad {s : ByteArray} {p : Nat} (h : p < s.size) (hf : fieldS s p = none) : fieldsS s p = none := by
  unfold fieldsS
  rw [show s.size - p = (s.size - p - 1) + 1 by omega]
  simp [fgo, h, hf]
theorem fields_step {s : ByteArray} {p : Nat} (h : p < s.size) {f : Fd} {n : Nat} (hf : fieldS s p = some (f, n)) : fieldsS s p = (fieldsS s n).map (f :: ·) := by
  conv => lhs; unfold fieldsS
  rw [show s.size - p = (s.size - p - 1) + 1 by omega]
  simp only [fgo, if_pos h, hf, Option.bind_some]
  have := fieldS_bd hf
  rw [fgo_fuel s (s.size - p - 1) n (by omega)]
/-- In a loop: what has been read, and what is still to come. -/
theorem fields_more {s : ByteArray} {p : Nat} {l : List Fd} (h : p < s.size) {f : Fd} {n : Nat} (hf : fieldS s p = some (f, n)) (hr : (fieldsS s p).map (l ++ ·) = fieldsS s 0) : (fieldsS s n).map ((l ++ [f]) ++ ·) = fieldsS s 0 := by
  rw [← hr, fields_step h hf, Option.map_map]
  congr 1
  funext x
  simp
theorem bt_left (s t : ByteArray) (k : Nat) (h : k < s.size) : bt (s ++ t) k = bt s k := by
  unfold bt
  have h1 : k < s.data.toList.length := by simpa using h
  rw [ByteArray.data_append, Array.toList_append, List.getD_eq_getElem?_getD, List.getD_eq_getElem?_getD, List.getElem?_append_left h1]
theorem bt_right (s t : ByteArray) (k : Nat) : bt (s ++ t) (s.size + k) = bt t k := by
  unfold bt
  have h1 : s.data.toList.length = s.size := by simp
  rw [ByteArray.data_append, Array.toList_append, List.getD_eq_getElem?_getD, List.getD_eq_getElem?_getD, List.getElem?_append_right (by omega), h1, show s.size + k - s.size = k by omega]
theorem size_app (s t : ByteArray) : (s ++ t).size = s.size + t.size := ByteArray.size_append

theorem nx_left (s t : ByteArray) (p i : Nat) (u : Int) (h : p + i < s.size) : nx (s ++ t) p i u = nx s p i u := by unfold nx; rw [bt_left s t _ h]
theorem nx_right (s t : ByteArray) (p i : Nat) (u : Int) : nx (s ++ t) (s.size + p) i u = nx t p i u := by unfold nx; rw [Nat.add_assoc, bt_right]
theorem tkGo_left (s t : ByteArray) (p : Nat) : ∀ f i u r, tkGo s p f i u = some r → tkGo (s ++ t) p f i u = some r := by
  intro f
  induction f with
  | zero => intro i u r h; simp [tkGo] at h
  | succ f ih =>
    intro i u r h
    unfold tkGo at h ⊢
    by_cases h1 : s.size ≤ p + i
    · simp [h1] at h
    · rw [if_neg h1] at h
      rw [if_neg (by rw [size_app]; omega), bt_left s t _ (by omega), nx_left s t p i u (by omega)]
      by_cases h2 : i = 9 ∧ 1 < bt s (p + i)
      · rw [if_pos h2] at h; cases h
      · rw [if_neg h2] at h ⊢
        by_cases h3 : bt s (p + i) < 128
        · rw [if_pos h3] at h ⊢; exact h
        · rw [if_neg h3] at h ⊢; exact ih _ _ _ h
theorem tkGo_right (s t : ByteArray) (p : Nat) : ∀ f i u, tkGo (s ++ t) (s.size + p) f i u = (tkGo t p f i u).map fun r => (r.1, s.size + r.2) := by
  intro f
  induction f with
  | zero => intro i u; simp [tkGo]
  | succ f ih =>
    intro i u
    unfold tkGo
    rw [size_app, show s.size + p + i = s.size + (p + i) by omega, bt_right, nx_right]
    by_cases h1 : t.size ≤ p + i
    · rw [if_pos (by omega), if_pos h1]; rfl
    · rw [if_neg (by omega), if_neg h1]
      by_cases h2 : i = 9 ∧ 1 < bt t (p + i)
      · rw [if_pos h2, if_pos h2]; rfl
      · rw [if_neg h2, if_neg h2]
        by_cases h3 : bt t (p + i) < 128
        · rw [if_pos h3, if_pos h3]; simp; omega
        · rw [if_neg h3, if_neg h3]; exact ih _ _
theorem tk_left {s : ByteArray} (t : ByteArray) {p : Nat} {r : Int × Nat} (h : tk s p = some r) : tk (s ++ t) p = some r := tkGo_left s t p 10 0 0 r h
theorem tk_right (s t : ByteArray) (p : Nat) : tk (s ++ t) (s.size + p) = (tk t p).map fun r => (r.1, s.size + r.2) := tkGo_right s t p 10 0 0
theorem lowS_left (s t : ByteArray) (n : Nat) : ∀ p, p + n ≤ s.size → lowS (s ++ t) p n = lowS s p n := by
  induction n with
  | zero => intro p _; rfl
  | succ n ih => intro p h; rw [lowS, lowS, bt_left s t _ (by omega), ih _ (by omega)]
theorem lowS_right (s t : ByteArray) (n : Nat) : ∀ p, lowS (s ++ t) (s.size + p) n = lowS t p n := by
  induction n with
  | zero => intro p; rfl
  | succ n ih => intro p; rw [lowS, lowS, bt_right, Nat.add_assoc, ih]
theorem list_ext (a b : ByteArray) (h : a.data.toList = b.data.toList) : a = b := by
  cases a; cases b; simp at h; simpa using h
theorem extract_left (s t : ByteArray) (p q : Nat) (h : q ≤ s.size) : (s ++ t).extract p q = s.extract p q := by
  apply list_ext
  have h1 : s.data.toList.length = s.size := by simp
  simp only [ByteArray.data_extract, Array.toList_extract, ByteArray.data_append, Array.toList_append, List.extract_eq_take_drop]
  rcases Nat.le_total p s.size with h2 | h2
  · rw [List.drop_append_of_le_length (by omega), List.take_append_of_le_length (by rw [List.length_drop]; omega)]
  · rw [show q - p = 0 by omega]; simp
theorem extract_right (s t : ByteArray) (p q : Nat) : (s ++ t).extract (s.size + p) (s.size + q) = t.extract p q := by
  apply list_ext
  have h1 : s.data.toList.length = s.size := by simp
  simp only [ByteArray.data_extract, Array.toList_extract, ByteArray.data_append, Array.toList_append, List.extract_eq_take_drop]
  rw [List.drop_append, List.drop_eq_nil_of_le (by omega), List.nil_append, h1, show s.size + p - s.size = p by omega, show s.size + q - (s.size + p) = q - p by omega]
theorem bodyS_left {s : ByteArray} (t : ByteArray) {hd : Int} {p : Nat} (hp : p ≤ s.size) {r : Fd × Nat} (h : bodyS s hd p = some r) : bodyS (s ++ t) hd p = some r := by
  unfold bodyS at h ⊢
  by_cases h0 : hd % 8 = 0
  · rw [if_pos h0] at h ⊢
    cases e : tk s p with
    | none => rw [e] at h; cases h
    | some x => rw [e] at h; rw [tk_left t e]; exact h
  · rw [if_neg h0] at h ⊢
    by_cases h1 : hd % 8 = 1
    · rw [if_pos h1] at h ⊢
      by_cases h2 : s.size < p + 8
      · rw [if_pos h2] at h; cases h
      · rw [if_neg h2] at h
        rw [if_neg (by rw [size_app]; omega), lowS_left s t 8 p (by omega)]
        exact h
    · rw [if_neg h1] at h ⊢
      by_cases h5 : hd % 8 = 5
      · rw [if_pos h5] at h ⊢
        by_cases h2 : s.size < p + 4
        · rw [if_pos h2] at h; cases h
        · rw [if_neg h2] at h
          rw [if_neg (by rw [size_app]; omega), lowS_left s t 4 p (by omega)]
          exact h
      · rw [if_neg h5] at h ⊢
        by_cases h2 : hd % 8 = 2
        · rw [if_pos h2] at h ⊢
          cases e : tk s p with
          | none => rw [e] at h; cases h
          | some x =>
            obtain ⟨u, n⟩ := x
            have hb := tk_bd e
            rw [e] at h
            rw [tk_left t e]
            simp only [Option.bind_some] at h ⊢
            by_cases h3 : (s.size : Int) - n < u
            · rw [if_pos h3] at h; cases h
            · rw [if_neg h3] at h
              rw [if_neg (by rw [size_app]; omega), extract_left s t _ _ (by omega)]
              exact h
        · rw [if_neg h2] at h; cases h
theorem bodyS_right (s t : ByteArray) (hd : Int) (p : Nat) : bodyS (s ++ t) hd (s.size + p) = (bodyS t hd p).map fun r => (r.1, s.size + r.2) := by
  unfold bodyS
  by_cases h0 : hd % 8 = 0
  · rw [if_pos h0, if_pos h0, tk_right]
    cases tk t p <;> rfl
  · rw [if_neg h0, if_neg h0]
    by_cases h1 : hd % 8 = 1
    · rw [if_pos h1, if_pos h1, size_app, lowS_right]
      by_cases h2 : t.size < p + 8
      · rw [if_pos h2, if_pos (by omega)]; rfl
      · rw [if_neg h2, if_neg (by omega)]; simp; omega
    · rw [if_neg h1, if_neg h1]
      by_cases h5 : hd % 8 = 5
      · rw [if_pos h5, if_pos h5, size_app, lowS_right]
        by_cases h2 : t.size < p + 4
        · rw [if_pos h2, if_pos (by omega)]; rfl
        · rw [if_neg h2, if_neg (by omega)]; simp; omega
      · rw [if_neg h5, if_neg h5]
        by_cases h2 : hd % 8 = 2
        · rw [if_pos h2, if_pos h2, tk_right]
          cases e : tk t p with
          | none => rfl
          | some x =>
            obtain ⟨u, n⟩ := x
            simp only [Option.map_some, Option.bind_some]
            rw [size_app]
            by_cases h3 : (t.size : Int) - n < u
            · rw [if_pos h3, if_pos (by omega)]; rfl
            · rw [if_neg h3, if_neg (by omega), Nat.add_assoc, extract_right]; simp
        · rw [if_neg h2, if_neg h2]; rfl
theorem fieldS_left {s : ByteArray} (t : ByteArray) {p : Nat} {r : Fd × Nat} (h : fieldS s p = some r) : fieldS (s ++ t) p = some r := by
  unfold fieldS at h ⊢
  cases e : tk s p with
  | none => rw [e] at h; cases h
  | some x =>
    obtain ⟨u, n⟩ := x
    have hb := tk_bd e
    rw [e] at h
    rw [tk_left t e]
    simp only [Option.bind_some] at h ⊢
    by_cases h3 : 4294967295 < u ∨ u < 8
    · rw [if_pos h3] at h; cases h
    · rw [if_neg h3] at h ⊢; exact bodyS_left t (by omega) h
theorem fieldS_right (s t : ByteArray) (p : Nat) : fieldS (s ++ t) (s.size + p) = (fieldS t p).map fun r => (r.1, s.size + r.2) := by
  unfold fieldS
  rw [tk_right]
  cases e : tk t p with
  | none => rfl
  | some x =>
    obtain ⟨u, n⟩ := x
    simp only [Option.map_some, Option.bind_some]
    by_cases h3 : 4294967295 < u ∨ u < 8
    · rw [if_pos h3, if_pos h3]; rfl
    · rw [if_neg h3, if_neg h3]; exact bodyS_right s t u n
theorem fgo_right (s t : ByteArray) : ∀ f p, fgo (s ++ t) f (s.size + p) = fgo t f p := by
  intro f
  induction f with
  | zero =>
    intro p
    unfold fgo
    rw [size_app]
    by_cases h : p < t.size
    · rw [if_pos h, if_pos (by omega)]
    · rw [if_neg h, if_neg (by omega)]
  | succ f ih =>
    intro p
    unfold fgo
    rw [size_app]
    by_cases h : p < t.size
    · rw [if_pos h, if_pos (by omega), fieldS_right]
      cases fieldS t p with
      | none => rfl
      | some r => simp only [Option.map_some, Option.bind_some]; rw [ih]
    · rw [if_neg h, if_neg (by omega)]
theorem fields_right (s t : ByteArray) : fieldsS (s ++ t) s.size = fieldsS t 0 := by
  rw [← fgo_fuel (s ++ t) (t.size - 0) s.size (by rw [size_app]; omega)]
  exact fgo_right s t (t.size - 0) 0
theorem mask127 {c : Int} (h₀ : 0 ≤ c) (h₁ : c ≤ 255) : bits .and .u8 c 127 = c % 128 := bits_mask .u8 8 (by decide) wraps_u8 7 (by decide) c h₀ (by omega)

theorem idx_str (s : ByteArray) (k : Nat) (h : k < s.size) (w : World) (i : Int) (hi : i = (k : Int)) : (Instr.index 9 (.string s) (.int .i64 i)).run Tryz.prog w = .ok (.int .u8 (bt s k)) w := by
  subst hi
  rw [run_index_string (P := Tryz.prog) w 9 s .i64 (k : Int) Tryz.underlying9, dif_pos ⟨by omega, by omega⟩]
  congr 2
  rw [← bt_get s k h]
  rfl
theorem tkGo_stop (s : ByteArray) (p k : Nat) (u : Int) (hk : k ≤ 9) (h : s.size ≤ p + k ∨ (k = 9 ∧ 1 < bt s (p + k))) : tkGo s p (10 - k) k u = none := by
  rw [show 10 - k = (9 - k) + 1 by omega, tkGo]
  split
  · rfl
  · next hs =>
    rcases h with h | h
    · omega
    · rw [if_pos h]
theorem tkGo_last (s : ByteArray) (p k : Nat) (u : Int) (hk : k ≤ 9) (h : p + k < s.size) (h9 : ¬ (k = 9 ∧ 1 < bt s (p + k))) (hl : bt s (p + k) < 128) : tkGo s p (10 - k) k u = some (nx s p k u, p + k + 1) := by
  rw [show 10 - k = (9 - k) + 1 by omega, tkGo, if_neg (by omega), if_neg h9, if_pos hl]
theorem tkGo_more (s : ByteArray) (p k : Nat) (u : Int) (hk : k ≤ 9) (h : p + k < s.size) (h9 : ¬ (k = 9 ∧ 1 < bt s (p + k))) (hl : ¬ bt s (p + k) < 128) : tkGo s p (10 - k) k u = tkGo s p (10 - (k + 1)) (k + 1) (nx s p k u) := by
  rw [show 10 - k = (9 - k) + 1 by omega, tkGo, if_neg (by omega), if_neg h9, if_neg hl, show 9 - k = 10 - (k + 1) by omega]
/-- Block b is a cursor over s at p. -/
def Cur (w : World) (b : Nat) (s : ByteArray) (p : Nat) : Prop := w.heap[b]? = some (.cells #[.string s, .int .i64 (p : Int)] 325 (0, 0))
theorem Cur.lt {w : World} {b p : Nat} {s : ByteArray} (h : Cur w b s p) : b < w.heap.size := (Array.getElem?_eq_some_iff.1 h).1
theorem Cur.txt {w : World} {b p : Nat} {s : ByteArray} (h : Cur w b s p) : w.cell? ⟨b, 0, none⟩ = some (.string s) := cell_of_row w b 0 _ 325 (0, 0) h
theorem Cur.at_ {w : World} {b p : Nat} {s : ByteArray} (h : Cur w b s p) : w.cell? ⟨b, 1, none⟩ = some (.int .i64 (p : Int)) := cell_of_row w b 1 _ 325 (0, 0) h
theorem Cur.free {w : World} {b p : Nat} {s : ByteArray} (h : Cur w b s p) (i : Nat) : w.frozen? ⟨b, i, none⟩ = false := by
  unfold Cur at h
  simp [World.frozen?, h]
theorem Cur.drewN {w : World} {b p : Nat} {s : ByteArray} (h : Cur w b s p) (q : Nat) : Cur (w.drewN q) b s p := h
theorem Cur.set_ {w : World} {b p : Nat} {s : ByteArray} (h : Cur w b s p) (n : Nat) (x : Int) (hx : x = (n : Int)) : Cur (w.setCell ⟨b, 1, none⟩ (.int .i64 x)) b s n := by
  subst hx
  unfold Cur at *
  simp [World.setCell, Array.getElem?_modify, h]
theorem Cur.far {w : World} {b p : Nat} {s : ByteArray} (h : Cur w b s p) {a : Addr} (ha : b ≠ a.block) (u : Value) : Cur (w.setCell a u) b s p := (Below.heap_setCell _ _ _ _ ha).trans h
theorem Cur.alloc {w : World} {b p : Nat} {s : ByteArray} (h : Cur w b s p) (o : Obj) : Cur (w.alloc o) b s p := (Below.heap_alloc _ _ _ h.lt).trans h
/-- What a malformed text panics with. -/
def bad : List PanicEntry := [{ v := .iface 378 (.agg #[]), recovered := false }]

theorem orw (u x : Int) (k : Nat) (hk : k ≤ 9) (h0 : 0 ≤ u) (h1 : u < two k) (hx : 0 ≤ x * two k) (hx1 : x * two k < B64) : bits .or .u64 u (IntKind.u64.wrap (x * 2 ^ (7 * k))) = u + x * two k := by
  have e : (2 : Int) ^ (7 * k) = two k := rfl
  rw [e, IntWalk.u64_in _ ⟨hx, by unfold B64 at hx1; omega⟩]
  exact bits_join_low .u64 64 (by decide) wraps_u64 (7 * k) u _ h0 (by rw [← e] at h1; exact h1) (by have := two_le k 9 hk; rw [two_9] at this; omega) hx (by rw [← e]; exact Int.mul_emod_left _ _) (by unfold B64 at hx1; omega)

def VarPost (s : ByteArray) (p b : Nat) (w : World) (e : Ending) (w' : World) : Prop :=
  Only b w w' ∧ ((∃ u n, tk s p = some (u, n) ∧ e = .returned (.int .u64 u) ∧ Cur w' b s n) ∨ (tk s p = none ∧ e = .panicked bad))

set_option maxRecDepth 100000 in
set_option maxHeartbeats 1600000 in
theorem varint_any (s : ByteArray) (p b : Nat) (w : World) (hs : s.size ≤ 140737488351232) (hp : p ≤ s.size) (hc : Cur w b s p) :
    Calls Tryz.prog 296 #[.pointer (some ⟨b, 0, none⟩)] w (VarPost s p b w) := by
  go_enter Tryz.func296, Tryz.ntmps296
  go_wp2_with fail
  go_loopw [3, 4] (fun v i wr => ∃ k : Nat, ∃ u : Int, k ≤ 10 ∧ i = .int .i64 (7 * (k : Int)) ∧ v = .int .u64 u ∧ 0 ≤ u ∧ u < two k ∧ tkGo s p (10 - k) k u = tk s p ∧ Cur wr b s (p + k) ∧ Only b w wr) (fun _ i _ => 70 - (intOf i).toNat)
  case atStart => exact ⟨0, 0, by omega, rfl, rfl, by omega, by decide, rfl, hc, Only.refl _ _⟩
  case round =>
    obtain ⟨k, u, hk, rfl, rfl, u0, u1, hgo, hcur, hon⟩ := hrel
    have Hgo := Lib.hid hgo
    have Hu1 := Lib.hid u1
    have Hcur := Lib.hid hcur
    obtain ⟨m, hm⟩ : ∃ m, m = p + k := ⟨_, rfl⟩
    rw [← hm] at hcur
    have c0 := hcur.txt
    have c1 := hcur.at_
    have f1 := hcur.free 1
    have Hm := Lib.hid hm
    have Hc2 := Lib.hid hcur
    have hm1 : m ≤ p + 10 := by omega
    clear hgo u1 hcur hm hc
    by_cases h10 : k = 10
    · have Hn := Lib.hid (show tk s p = none by rw [← Hgo.out, h10]; rfl)
      have hk10 : 70 ≤ 7 * (k : Int) := by omega
      clear h10
      go_wp2
      exact ⟨rfl, hon, .inr ⟨Hn.out, rfl⟩⟩
    · have hk9 : k ≤ 9 := by omega
      clear hk h10
      by_cases hsz : m < s.size
      · have hb := bt_bd s m
        have hmask := mask127 hb.1 hb.2
        have hidx : ∀ w, (Instr.index 9 (.string s) (.int .i64 (m : Int))).run Tryz.prog w = .ok (.int .u8 (bt s m)) w := fun w => idx_str s m hsz w _ rfl
        have hlt : ¬ (s.size : Int) ≤ m := by omega
        have hm0 : (0 : Int) ≤ m := by omega
        have hm2 : (m : Int) < s.size := by omega
        by_cases h9 : k = 9 ∧ 1 < bt s m
        · have Hn := Lib.hid (show tk s p = none by rw [← Hgo.out]; exact tkGo_stop s p k u hk9 (.inr (by rw [← Hm.out]; exact h9)))
          have q1 : (7 * (k : Int) == 63) = true := by simp; omega
          have q2 : 1 < bt s m := h9.2
          clear h9
          go_wp2
          go_quiet (fail)
          go_wp2
          go_quiet (fail)
          go_wp2
          exact ⟨rfl, ((hon.drewN _).set_ _ _), .inr ⟨Hn.out, rfl⟩⟩
        · have H9 := Lib.hid h9
          have q : ((7 * (k : Int) == 63) = true ∧ ¬ 1 < bt s m) ∨ (7 * (k : Int) == 63) = false := by
            by_cases e : k = 9
            · exact .inl ⟨by simp [e], fun h => h9 ⟨e, h⟩⟩
            · exact .inr (by simp; omega)
          clear h9
          have Hpart := Lib.hid (show 0 ≤ bt s m % 128 * two k ∧ bt s m % 128 * two k < B64 by have := part_bd s p k u hk9 u0 Hu1.out (by rw [← Hm.out]; exact H9.out); rw [← Hm.out] at this; exact this)
          have Hnx := Lib.hid (show nx s p k u = u + bt s m % 128 * two k by unfold nx; rw [← Hm.out])
          have Hw := Lib.hid (show bits .or .u64 u (IntKind.u64.wrap (bt s m % 128 * 2 ^ (7 * k))) = nx s p k u by rw [Hnx.out]; exact orw u _ k hk9 u0 Hu1.out Hpart.out.1 Hpart.out.2)
          have Hnb := Lib.hid (nx_bd s p k u u0 Hu1.out)
          have Hset := Lib.hid (show ∀ q, Cur ((wr.drewN q).setCell ⟨b, 1, none⟩ (.int .i64 ((m : Int) + 1))) b s (p + (k + 1)) from fun q => (Hc2.out.drewN q).set_ _ _ (by have := Hm.out; omega))
          by_cases hl : bt s m < 128
          · have Hn := Lib.hid (show tk s p = some (nx s p k u, p + (k + 1)) by rw [← Hgo.out]; exact tkGo_last s p k u hk9 (by rw [← Hm.out]; exact hsz) (by rw [← Hm.out]; exact H9.out) (by rw [← Hm.out]; exact hl))
            rcases q with ⟨q1, q2⟩ | q1
            all_goals
              go_wp2
              go_quiet (fail)
              go_wp2
              go_quiet (fail)
              go_wp2
              go_ret
              exact ⟨(hon.drewN _).set_ _ _, .inl ⟨_, _, Hn.out, by rw [← Hw.out]; rfl, Hset.out _⟩⟩
          · have Hn := Lib.hid (show tkGo s p (10 - (k + 1)) (k + 1) (nx s p k u) = tk s p by rw [← Hgo.out]; exact (tkGo_more s p k u hk9 (by rw [← Hm.out]; exact hsz) (by rw [← Hm.out]; exact H9.out) (by rw [← Hm.out]; exact hl)).symm)
            rcases q with ⟨q1, q2⟩ | q1
            · omega
            · go_wp2
              go_quiet (fail)
              go_wp2
              go_quiet (fail)
              go_wp2
              go_roundw
              case rel => exact ⟨k + 1, nx s p k u, by omega, by go_num, by rw [Hw.out], Hnb.out.1, Hnb.out.2, Hn.out, Hset.out _, (hon.drewN _).set_ _ _⟩
              case measure => simp [intOf]; omega
      · have Hn := Lib.hid (show tk s p = none by rw [← Hgo.out]; exact tkGo_stop s p k u hk9 (.inl (by rw [← Hm.out]; omega)))
        have hge : (s.size : Int) ≤ m := by omega
        go_wp2
        go_quiet (fail)
        go_wp2
        exact ⟨rfl, hon.drewN _, .inr ⟨Hn.out, rfl⟩⟩
theorem Tryz.info5 : (Tryz.prog.info? 5).map (fun i => (i.zero, i.size, i.bytes)) = some (some (.int .u8 0), 1, 1) := by kernel_rfl

/-- The call's own bytes. -/
def OwnB (w : World) (B : Nat) (v : Value) (l : List Int) : Prop := w.ownsRow B 5 1 v l.length (l.map (Value.int .u8)) ∧ l.length ≤ maxLen
theorem ownB_nil (w : World) (B : Nat) : OwnB w B (.slice none 0 0) [] := ⟨World.ownsRow_nil _ _ _ _, Nat.zero_le _⟩

theorem ownB_form {w : World} {B : Nat} {v : Value} {l : List Int} (h : OwnB w B v l) : ∃ A c, v = .slice A l.length c := by
  rcases h.1.2 with ⟨rfl, hn⟩ | ⟨g, cap, cur, rfl, _⟩
  · exact ⟨none, 0, by rw [hn]⟩
  · exact ⟨_, _, rfl⟩
/-- One byte more. -/
theorem wpList_append_b1 {P : Program} (w0 : World) (x : Int) {ops : Array Oper} {rest : List Oper} {o : Oper} {a : Act} {Q : Exit → Act → World → Prop} (hgd : o.guard = none) (s y : Operand) (t : TypeId)
    (ho : o.op = .call { callee := .builtin .append, args := #[s, y], argTypes := #[t, t] })
    (i : TypeInfo) (ht : P.underlying t = some (.slice 5)) (hi : P.info? 5 = some i) (hz : i.zero = some (.int .u8 0)) (hsize : i.size = 1) (hby : i.bytes = 1)
    (B : Nat) (v : Value) (l : List Int) (hs : a.eval s = v) (hown : OwnB w0 B v l) (hx : a.eval y = .slice (some ⟨w0.heap.size, 0, none⟩) 1 1)
    (hlen : l.length + 1 ≤ 140737488355328) (hbase : B ≤ w0.heap.size)
    (h : ∀ v' w', OwnB w' B v' (l ++ [x]) → (w0.alloc (.cells #[.int .u8 x] 5)).grownBy w' v.ownBlock → wpList P ops Q rest (a.put o.dst v') w') : wpList P ops Q (o :: rest) a (w0.alloc (.cells #[.int .u8 x] 5)) := by
  refine wpList_append_own _ hgd s y t ho B 5 i (.int .u8 0) 1 1 ht hi hz hsize hby rfl (by decide) v l.length (l.map (Value.int .u8)) hs (hown.1.alloc _) ⟨w0.heap.size, 0, none⟩ 1 1 [.int .u8 x] hx rfl ?_ ?_ (by unfold maxLen; omega) (by omega) (by simp; omega) ?_
  · intro j u hj
    match j, hj with
    | 0, hj => simp at hj; subst hj; simp [Addr.add]
  · intro u hu; simp at hu; subst hu; rfl
  · intro v' w' h2 h3 _
    refine h v' w' ⟨?_, by simp; unfold maxLen; omega⟩ h3
    simpa using h2
theorem ownB_below {a w0 w' : World} {x : Int} {B : Nat} {v : Value} {l : List Int} (h : OwnB w0 B v l) (hb : Below B a w0) (hg : (w0.alloc (.cells #[.int .u8 x] 5)).grownBy w' v.ownBlock) (hB : B ≤ w0.heap.size) : Below B a w' :=
  (hb.alloc hB _).grown hg (by simp; omega) fun k hk => (h.1.lt k hk).1
/-- The call's own bytes, as a string. -/
theorem run_string_own {P : Program} (w : World) (src dst : TypeId) (hs : P.underlying src = some (.slice 5)) (he : P.underlying 5 = some (.int .u8)) (hd : P.underlying dst = some .string)
    (B : Nat) (v : Value) (l : List Int) (h : OwnB w B v l) : (convert src dst v).run P w = .ok (.string (strOfNums l)) w := by
  rcases h.1.2 with ⟨rfl, hn⟩ | ⟨g, cap, cur, rfl, _⟩
  · have : l = [] := List.eq_nil_of_length_eq_zero hn
    subst this
    exact run_convert_bytes_nil w src 5 hs he 0 0 dst hd
  · refine run_convert_bytes_arg w src 5 hs he g 0 l.length cap l rfl ?_ dst hd
    intro i hi
    rw [Nat.zero_add, h.1.cellAt i (by omega)]
    simp [hi]

theorem or128 {c : Int} (h₀ : 0 ≤ c) : bits .or .u8 (c % 256) 128 = c % 128 + 128 := by
  have h : c % 256 = c % 128 + 128 * (c / 128 % 2) := by omega
  have h2 : c / 128 % 2 = 0 ∨ c / 128 % 2 = 1 := by omega
  have key : ∀ a : Fin 256, bits .or .u8 (a.val : Int) 128 = (a.val : Int) % 128 + 128 := by decide +kernel
  have := key ⟨(c % 256).toNat, by omega⟩
  simp only at this
  rw [show (((c % 256).toNat : Nat) : Int) = c % 256 by omega] at this
  rw [this]; omega

set_option maxRecDepth 100000 in
set_option maxHeartbeats 800000 in
theorem varint_w (u : Int) (w : World) (h0 : 0 ≤ u) (h1 : u < B64) : Calls Tryz.prog 46 #[.int .u64 u] w fun e w' => e = .returned (.string (strOfNums (venc u))) ∧ Below w.heap.size w w' := by
  obtain ⟨i0, hi, hz0, hz1, hz2⟩ := info_parts Tryz.info5
  have H1 := Lib.hid h1
  clear h1
  have hcv := fun wx v l B (h : OwnB wx B v l) => run_string_own (P := Tryz.prog) wx 114 9 Tryz.underlying114 Tryz.underlying5 Tryz.underlying9 B v l h
  have Hcv := Lib.hid hcv
  clear hcv
  go_enter Tryz.func46, Tryz.ntmps46
  go_wp2_with fail
  go_loopw [0, 3] (fun x v wr => ∃ y : Int, ∃ l : List Int, ∃ f : Nat, x = .int .u64 y ∧ 0 ≤ y ∧ (f = 0 → y < 128) ∧ f + l.length = 9 ∧ l ++ vencF f y = venc u ∧ y < 2 * two f ∧ OwnB wr w.heap.size v l ∧ Below w.heap.size w wr) (fun x _ _ => (intOf x).toNat)
  case atStart =>
    refine ⟨u, [], 9, rfl, h0, by omega, rfl, rfl, ?_, ownB_nil _ _, Below.refl _ _⟩
    have := H1.out
    rw [two_9]; unfold B64 at this; omega
  case round =>
    obtain ⟨y, l, f, rfl, y0, yf, hfl, hv, hy2, ho, hb⟩ := hrel
    have Hv := Lib.hid hv
    have Hy2 := Lib.hid hy2
    have Hfl := Lib.hid hfl
    have hl9 : l.length ≤ 9 := by omega
    clear hv hy2 hfl
    have hsz := hb.size
    by_cases hy : 128 ≤ y
    · have hf : f ≠ 0 := fun e => by have := yf e; omega
      clear yf
      obtain ⟨f, rfl⟩ := Nat.exists_eq_succ_of_ne_zero hf
      clear hf
      have Hor := Lib.hid (or128 y0)
      go_wp2_with (at_builtin; refine wpList_append_b1 wr _ rfl (.tmp 8) (.tmp 12) 114 rfl i0 Tryz.underlying114 hi hz0 hz1 hz2 w.heap.size _ l rfl ho rfl (by omega) hsz ?_; intro v' w1 hown hgrow)
      go_roundw
      case rel =>
        refine ⟨y / 128, l ++ [y % 128 + 128], f, by go_num, by omega, ?_, ?_, ?_, ?_, ?_, ownB_below ho hb hgrow hsz⟩
        · intro e
          subst e
          have := Hy2.out
          rw [two_succ, show two 0 = 1 from rfl] at this
          omega
        · have := Hfl.out; simp; omega
        · rw [← Hv.out, vencF_more f y (by omega)]; simp
        · have := Hy2.out
          rw [two_succ] at this
          omega
        · rw [← Hor.out]; exact hown
      case measure => simp [intOf]; omega
    · go_wp2_with (at_builtin; refine wpList_append_b1 wr _ rfl (.tmp 14) (.tmp 17) 114 rfl i0 Tryz.underlying114 hi hz0 hz1 hz2 w.heap.size _ l rfl ho rfl (by omega) hsz ?_; intro v' w1 hown hgrow; have hc := Hcv.out _ _ _ _ hown; have Hown := Lib.hid hown; clear hown)
      go_ret
      refine ⟨?_, ownB_below ho hb hgrow hsz⟩
      rw [← Hv.out, vencF_stop f y (by omega), show y % 256 = y by omega]
      rfl
set_option maxRecDepth 100000 in
set_option maxHeartbeats 1600000 in
theorem bytes_ok (s : ByteArray) (p b : Nat) (w : World) (hs : s.size ≤ 140737488351232) (hc : Cur w b s p) (n : Nat) (hn : p + n ≤ s.size) :
    Calls Tryz.prog 298 #[.pointer (some ⟨b, 0, none⟩), .int .u64 (n : Int)] w fun e w' => e = .returned (.string (s.extract p (p + n))) ∧ Cur w' b s (p + n) ∧ Only b w w' := by
  have c0 := hc.txt
  have c1 := hc.at_
  have f1 := hc.free 1
  have Hc := Lib.hid hc
  clear hc
  have hp0 : (0 : Int) ≤ p := by omega
  have hp1 : (p : Int) ≤ s.size := by omega
  have hn0 : (0 : Int) ≤ n := by omega
  have hn1 : (p : Int) + n ≤ s.size := by omega
  have hgt : ¬ (s.size : Int) - p < n := by omega
  go_enter Tryz.func298, Tryz.ntmps298
  go_wp2
  go_quiet (fail)
  go_wp2
  go_quiet (fail)
  go_wp2
  go_ret
  exact ⟨rfl, (Hc.out.drewN _).set_ _ _ (by omega), (((Only.refl _ _).drewN _).set_ _ _).drewN _⟩

set_option maxRecDepth 100000 in
set_option maxHeartbeats 1600000 in
theorem bytes_bad (s : ByteArray) (p b : Nat) (w : World) (hs : s.size ≤ 140737488351232) (hp : p ≤ s.size) (hc : Cur w b s p) (n : Int) (h0 : 0 ≤ n) (hn : (s.size : Int) - p < n) :
    Calls Tryz.prog 298 #[.pointer (some ⟨b, 0, none⟩), .int .u64 n] w fun e w' => e = .panicked bad ∧ Only b w w' := by
  have c0 := hc.txt
  have c1 := hc.at_
  have Hc := Lib.hid hc
  clear hc
  have hp0 : (0 : Int) ≤ p := by omega
  have hp1 : (p : Int) ≤ s.size := by omega
  go_enter Tryz.func298, Tryz.ntmps298
  go_wp2
  go_quiet (fail)
  go_wp2
  exact ⟨rfl, rfl, (Only.refl _ _).drewN _⟩

/-- So many bytes at a place, the lowest eight bits first. -/
theorem or_low {x y : Int} (h0 : 0 ≤ x) (h1 : x * 256 < B64) (y0 : 0 ≤ y) (y1 : y ≤ 255) : bits .or .u64 (IntKind.u64.wrap (x * 256)) y = y + 256 * x := by
  rw [IntWalk.u64_in _ ⟨by omega, by unfold B64 at h1; omega⟩]
  have := bits_join .u64 64 (by decide) wraps_u64 8 (x * 256) y (by omega) (by omega) (by unfold B64 at h1; omega) y0 (by omega) (by omega)
  rw [this]; omega

set_option maxRecDepth 100000 in
set_option maxHeartbeats 1600000 in
theorem fixed_ok (s : ByteArray) (p b : Nat) (w : World) (hs : s.size ≤ 140737488351232) (hc : Cur w b s p) (n : Nat) (hn8 : n ≤ 8) (hn : p + n ≤ s.size) :
    Calls Tryz.prog 297 #[.pointer (some ⟨b, 0, none⟩), .int .u64 (n : Int)] w fun e w' => e = .returned (.int .u64 (lowS s p n)) ∧ Cur w' b s (p + n) ∧ Only b w w' := by
  have Hext := Lib.hid (show (s.extract p (p + n)).size = n by simp; omega)
  obtain ⟨t, ht⟩ : ∃ t, t = s.extract p (p + n) := ⟨_, rfl⟩
  have Ht := Lib.hid ht
  have Hb := Lib.hid (bytes_ok s p b w hs hc n hn)
  rw [← Ht.out] at Hb Hext
  have hpn := hn
  have tz : t.size ≤ 8 := by rw [Hext.out]; exact hn8
  clear hc ht
  go_enter Tryz.func297, Tryz.ntmps297
  go_wp2_with fail
  refine Hb.out.mono ?_
  rintro e w1 ⟨rfl, hc1, ho1⟩
  have Hc1 := Lib.hid hc1
  clear hc1
  go_wp2_with fail
  go_loop [5, 7] (fun u i => ∃ k : Nat, k ≤ t.size ∧ i = .int .i64 ((k : Int) - 1) ∧ u = .int .u64 (lowS s (p + k) (n - k))) (fun _ i => (intOf i + 1).toNat)
  case atStart => exact ⟨t.size, Nat.le_refl _, rfl, by rw [Hext.out, Nat.sub_self]; rfl⟩
  case round =>
    obtain ⟨k, hk, hi, rfl⟩ := hrel
    cases k with
    | zero =>
      subst hi
      go_wp2
      go_ret
      exact ⟨rfl, Hc1.out, ho1⟩
    | succ k =>
      rw [show ((k + 1 : Nat) : Int) - 1 = (k : Int) by omega] at hi
      subst hi
      have hb := bt_bd t k
      have hidx : ∀ w, (Instr.index 9 (.string t) (.int .i64 (k : Int))).run Tryz.prog w = .ok (.int .u8 (bt t k)) w := fun w => idx_str t k (by omega) w _ rfl
      have hl := lowS_bd s (p + (k + 1)) (n - (k + 1))
      have Hl2 := Lib.hid (show lowS s (p + (k + 1)) (n - (k + 1)) * 256 < B64 from lowS_64 s _ _ (by have := Hext.out; omega))
      have Hor := Lib.hid (or_low hl.1 Hl2.out hb.1 hb.2)
      have Hst := Lib.hid (show bt t k + 256 * lowS s (p + (k + 1)) (n - (k + 1)) = lowS s (p + k) (n - k) by
        have hn : n - k = (n - (k + 1)) + 1 := by have := Hext.out; omega
        rw [hn, lowS, Ht.out, bt_extract s p (p + n) k (by have := Hext.out; omega) hpn]
        rfl)
      have hl0 := hl.1
      clear hl
      go_wp2
      go_round
      case rel => exact ⟨k, by omega, rfl, by rw [Hor.out, Hst.out]⟩
      case measure => simp [intOf]

set_option maxRecDepth 100000 in
set_option maxHeartbeats 1600000 in
theorem fixed_bad (s : ByteArray) (p b : Nat) (w : World) (hs : s.size ≤ 140737488351232) (hp : p ≤ s.size) (hc : Cur w b s p) (n : Nat) (hn : s.size < p + n) :
    Calls Tryz.prog 297 #[.pointer (some ⟨b, 0, none⟩), .int .u64 (n : Int)] w fun e w' => e = .panicked bad ∧ Only b w w' := by
  have Hb := Lib.hid (bytes_bad s p b w hs hp hc (n : Int) (by omega) (by omega))
  clear hc
  go_enter Tryz.func297, Tryz.ntmps297
  go_wp2_with fail
  refine Hb.out.mono ?_
  rintro e w1 ⟨rfl, ho1⟩
  exact ⟨rfl, rfl, ho1⟩
def Fd.val (f : Fd) : Value := .agg #[.int .i64 f.num, .int .i64 f.kind, .int .u64 f.u, .string f.b]
def FieldPost (s : ByteArray) (p b : Nat) (w : World) (e : Ending) (w' : World) : Prop :=
  Only b w w' ∧ ((∃ f n, fieldS s p = some (f, n) ∧ e = .returned f.val ∧ Cur w' b s n) ∨ (fieldS s p = none ∧ e = .panicked bad))

theorem blk4 {W : World} {g : Nat} {t : TypeId} {v0 v1 v2 v3 : Value} (h : W.heap[g]? = some (.cells #[v0, v1, v2, v3] t (0, 0))) :
    (W.cell? ⟨g, 0, none⟩ = some v0 ∧ W.cell? ⟨g, 1, none⟩ = some v1 ∧ W.cell? ⟨g, 2, none⟩ = some v2 ∧ W.cell? ⟨g, 3, none⟩ = some v3) ∧
    (W.frozen? ⟨g, 0, none⟩ = false ∧ W.frozen? ⟨g, 1, none⟩ = false ∧ W.frozen? ⟨g, 2, none⟩ = false ∧ W.frozen? ⟨g, 3, none⟩ = false) := by
  refine ⟨⟨cell_of_row W g 0 _ t (0, 0) h, cell_of_row W g 1 _ t (0, 0) h, cell_of_row W g 2 _ t (0, 0) h, cell_of_row W g 3 _ t (0, 0) h⟩, ?_⟩
  refine ⟨?_, ?_, ?_, ?_⟩ <;> simp [World.frozen?, h]
theorem only5 {b : Nat} {w W : World} (h : Only b w W) {g : Nat} (hg : w.heap.size ≤ g) (i : Nat) (x y0 y1 y2 y3 : Value) :
    Only b w (((((W.setCell ⟨g, i, none⟩ x).setCell ⟨w.heap.size, 0, none⟩ y0).setCell ⟨w.heap.size, 1, none⟩ y1).setCell ⟨w.heap.size, 2, none⟩ y2).setCell ⟨w.heap.size, 3, none⟩ y3) :=
  ((((h.new_ hg x).new_ (Nat.le_refl _) y0).new_ (Nat.le_refl _) y1).new_ (Nat.le_refl _) y2).new_ (Nat.le_refl _) y3
theorem cur5 {b n : Nat} {s : ByteArray} {W : World} (h : Cur W b s n) {g r : Nat} (hg : b ≠ g) (hr : b ≠ r) (i : Nat) (x y0 y1 y2 y3 : Value) :
    Cur (((((W.setCell ⟨g, i, none⟩ x).setCell ⟨r, 0, none⟩ y0).setCell ⟨r, 1, none⟩ y1).setCell ⟨r, 2, none⟩ y2).setCell ⟨r, 3, none⟩ y3) b s n :=
  ((((h.far hg x).far hr y0).far hr y1).far hr y2).far hr y3
theorem mask7 {c : Int} (h₀ : 0 ≤ c) (h₁ : c < B64) : bits .and .u64 c 7 = c % 8 := bits_mask .u64 64 (by decide) wraps_u64 3 (by decide) c h₀ (by unfold B64 at h₁; omega)
theorem fieldS_none {s : ByteArray} {p : Nat} (h : tk s p = none) : fieldS s p = none := by simp [fieldS, h]
theorem fieldS_head {s : ByteArray} {p : Nat} {hd : Int} {n : Nat} (h : tk s p = some (hd, n)) (hb : 4294967295 < hd ∨ hd < 8) : fieldS s p = none := by simp [fieldS, h, hb]
theorem fieldS_body {s : ByteArray} {p : Nat} {hd : Int} {n : Nat} (h : tk s p = some (hd, n)) (hb : ¬ (4294967295 < hd ∨ hd < 8)) : fieldS s p = bodyS s hd n := by
  simp only [fieldS, h, Option.bind_some]
  rw [if_neg hb]

set_option maxRecDepth 100000 in
set_option maxHeartbeats 1600000 in
theorem field_any (s : ByteArray) (p b : Nat) (w : World) (hs : s.size ≤ 140737488351232) (hp : p ≤ s.size) (hc : Cur w b s p) :
    Calls Tryz.prog 228 #[.pointer (some ⟨b, 0, none⟩)] w (FieldPost s p b w) := by
  have hbl := hc.lt
  have Hc := Lib.hid (show Cur (w.alloc (.cells #[.int .i64 0, .int .i64 0, .int .u64 0, .string ⟨#[]⟩] 112)) b s p from (Below.heap_alloc _ _ _ hbl).trans hc)
  clear hc
  go_enter Tryz.func228, Tryz.ntmps228
  go_wp2_with fail
  refine (varint_any s p b _ hs hp Hc.out).mono ?_
  rintro e w1 ⟨ho1, hcase⟩
  have s1 : w.heap.size + 1 ≤ w1.heap.size := by have := ho1.size; simpa using this
  have hblk : w1.heap[w.heap.size]? = some (.cells #[.int .i64 0, .int .i64 0, .int .u64 0, .string ⟨#[]⟩] 112 (0, 0)) := (ho1.block _ (by simp) (by omega)).trans (heap_alloc_new w _)
  have Hblk := Lib.hid hblk
  have Ho1 := Lib.hid (((Only.refl b w).alloc _).trans ho1)
  clear hblk ho1
  rcases hcase with ⟨hd, n, htk, rfl, hc1⟩ | ⟨htk, rfl⟩
  case inr => exact ⟨rfl, Ho1.out, .inr ⟨fieldS_none htk, rfl⟩⟩
  case inl =>
    obtain ⟨h0, h64, hn1, hn2⟩ := tk_bd htk
    have Htk := Lib.hid htk
    have H64 := Lib.hid h64
    have Hc1 := Lib.hid hc1
    clear htk h64 hc1
    by_cases hbig : 4294967295 < hd
    · have Hf := Lib.hid (fieldS_head Htk.out (.inl hbig))
      have q1 : (hd / 4294967296 != 0) = true := by simp; omega
      go_wp2
      exact ⟨rfl, Ho1.out, .inr ⟨Hf.out, rfl⟩⟩
    · have q1 : (hd / 4294967296 != 0) = false := by simp; omega
      by_cases hsm : hd < 8
      · have Hf := Lib.hid (fieldS_head Htk.out (.inr hsm))
        have q2 : (hd / 8 == 0) = true := by simp; omega
        go_wp2
        exact ⟨rfl, Ho1.out, .inr ⟨Hf.out, rfl⟩⟩
      · have q2 : (hd / 8 == 0) = false := by simp; omega
        have Hf := Lib.hid (fieldS_body Htk.out (by omega))
        have hm7 := mask7 h0 H64.out
        have Hm7 := Lib.hid hm7
        have kb : 0 ≤ hd % 8 ∧ hd % 8 < 8 := by omega
        have nb : 0 ≤ hd / 8 ∧ hd / 8 ≤ 536870911 := by omega
        by_cases k0 : hd % 8 = 0
        · have q3 : (hd % 8 == 0) = true := by simp [k0]
          have K0 := Lib.hid k0
          clear k0
          go_wp2_with fail
          refine (varint_any s n b _ hs hn2 ((Below.heap_alloc _ _ _ Hc1.out.lt).trans Hc1.out)).mono ?_
          rintro e w2 ⟨ho2, hcase⟩
          have Ho2 := Lib.hid (Ho1.out.trans (((Only.refl b w1).alloc _).trans ho2))
          have hF := (ho2.block w1.heap.size (by simp) (by have := Hc1.out.lt; omega)).trans (heap_alloc_new w1 _)
          have hR := (ho2.block w.heap.size (by simp; omega) (by omega)).trans ((Below.heap_alloc w1 _ w.heap.size (by omega)).trans Hblk.out)
          have s2 : w1.heap.size + 1 ≤ w2.heap.size := by have := ho2.size; simpa using this
          clear ho2
          rcases hcase with ⟨u, n2, htk2, rfl, hc2⟩ | ⟨htk2, rfl⟩
          case inr => exact ⟨rfl, Ho2.out, .inr ⟨by rw [Hf.out, bodyS, if_pos K0.out, htk2]; rfl, rfl⟩⟩
          case inl =>
            obtain ⟨⟨a0, a1, a2, a3⟩, ⟨b0, b1, b2, b3⟩⟩ := blk4 hF
            obtain ⟨⟨c0, c1, c2, c3⟩, ⟨d0, d1, d2, d3⟩⟩ := blk4 hR
            have Hres := Lib.hid (show fieldS s p = some (⟨hd / 8, 0, u, ⟨#[]⟩⟩, n2) by rw [Hf.out, bodyS, if_pos K0.out, htk2]; rfl)
            have Hc2 := Lib.hid hc2
            clear hF hR htk2 hc2
            go_wp2
            refine bodyPost_ret (v := .agg #[.int .i64 (hd / 8), .int .i64 (hd % 8), .int .u64 u, .string ⟨#[]⟩]) (by simp [results, Tryz.results228, go_sem, c0, c1, c2, c3]) rfl ⟨?_, .inl ⟨_, _, Hres.out, by rw [K0.out]; rfl, ?_⟩⟩
            · exact only5 Ho2.out (by omega) _ _ _ _ _ _
            · exact cur5 Hc2.out (by omega) (by omega) _ _ _ _ _ _
        · have q3 : (hd % 8 == 0) = false := by simp [k0]
          by_cases k1 : hd % 8 = 1
          · have q4 : (hd % 8 == 1) = true := by simp [k1]
            have K0 := Lib.hid k0
            have K1 := Lib.hid k1
            clear k0 k1
            by_cases hsz : n + 8 ≤ s.size
            · have Hres := Lib.hid (show fieldS s p = some (⟨hd / 8, 1, lowS s n 8, ⟨#[]⟩⟩, n + 8) by rw [Hf.out, bodyS, if_neg K0.out, if_pos K1.out, if_neg (by omega)])
              have Hfx := Lib.hid (fixed_ok s n b _ hs (Hc1.out.alloc (.cells #[.int .i64 (hd / 8), .int .i64 (hd % 8), .int .u64 0, .string ⟨#[]⟩] 112)) 8 (by omega) hsz)
              go_wp2_with fail
              refine Hfx.out.mono ?_
              rintro e w2 ⟨rfl, hc2, ho2⟩
              have Ho2 := Lib.hid (Ho1.out.trans (((Only.refl b w1).alloc _).trans ho2))
              have hF := (ho2.block w1.heap.size (by simp) (by have := Hc1.out.lt; omega)).trans (heap_alloc_new w1 _)
              have hR := (ho2.block w.heap.size (by simp; omega) (by omega)).trans ((Below.heap_alloc w1 _ w.heap.size (by omega)).trans Hblk.out)
              have s2 : w1.heap.size + 1 ≤ w2.heap.size := by have := ho2.size; simpa using this
              obtain ⟨⟨a0, a1, a2, a3⟩, ⟨b0, b1, b2, b3⟩⟩ := blk4 hF
              obtain ⟨⟨c0, c1, c2, c3⟩, ⟨d0, d1, d2, d3⟩⟩ := blk4 hR
              have Hc2 := Lib.hid hc2
              clear ho2 hF hR hc2
              go_wp2
              refine bodyPost_ret (v := .agg #[.int .i64 (hd / 8), .int .i64 (hd % 8), .int .u64 (lowS s n 8), .string ⟨#[]⟩]) (by simp [results, Tryz.results228, go_sem, c0, c1, c2, c3]) rfl ⟨?_, .inl ⟨_, _, Hres.out, by rw [K1.out]; rfl, ?_⟩⟩
              · exact only5 Ho2.out (by omega) _ _ _ _ _ _
              · exact cur5 Hc2.out (by omega) (by omega) _ _ _ _ _ _
            · have Hres := Lib.hid (show fieldS s p = none by rw [Hf.out, bodyS, if_neg K0.out, if_pos K1.out, if_pos (by omega)])
              have Hfx := Lib.hid (fixed_bad s n b _ hs hn2 (Hc1.out.alloc (.cells #[.int .i64 (hd / 8), .int .i64 (hd % 8), .int .u64 0, .string ⟨#[]⟩] 112)) 8 (by omega))
              go_wp2_with fail
              refine Hfx.out.mono ?_
              rintro e w2 ⟨rfl, ho2⟩
              exact ⟨rfl, Ho1.out.trans (((Only.refl b w1).alloc _).trans ho2), .inr ⟨Hres.out, rfl⟩⟩
          · have q4 : (hd % 8 == 1) = false := by simp [k1]
            by_cases k5 : hd % 8 = 5
            · have q5 : (hd % 8 == 5) = true := by simp [k5]
              have K0 := Lib.hid k0
              have K1 := Lib.hid k1
              have K5 := Lib.hid k5
              clear k0 k1 k5
              by_cases hsz : n + 4 ≤ s.size
              · have Hres := Lib.hid (show fieldS s p = some (⟨hd / 8, 5, lowS s n 4, ⟨#[]⟩⟩, n + 4) by rw [Hf.out, bodyS, if_neg K0.out, if_neg K1.out, if_pos K5.out, if_neg (by omega)])
                have Hfx := Lib.hid (fixed_ok s n b _ hs (Hc1.out.alloc (.cells #[.int .i64 (hd / 8), .int .i64 (hd % 8), .int .u64 0, .string ⟨#[]⟩] 112)) 4 (by omega) hsz)
                go_wp2_with fail
                refine Hfx.out.mono ?_
                rintro e w2 ⟨rfl, hc2, ho2⟩
                have Ho2 := Lib.hid (Ho1.out.trans (((Only.refl b w1).alloc _).trans ho2))
                have hF := (ho2.block w1.heap.size (by simp) (by have := Hc1.out.lt; omega)).trans (heap_alloc_new w1 _)
                have hR := (ho2.block w.heap.size (by simp; omega) (by omega)).trans ((Below.heap_alloc w1 _ w.heap.size (by omega)).trans Hblk.out)
                have s2 : w1.heap.size + 1 ≤ w2.heap.size := by have := ho2.size; simpa using this
                obtain ⟨⟨a0, a1, a2, a3⟩, ⟨b0, b1, b2, b3⟩⟩ := blk4 hF
                obtain ⟨⟨c0, c1, c2, c3⟩, ⟨d0, d1, d2, d3⟩⟩ := blk4 hR
                have Hc2 := Lib.hid hc2
                clear ho2 hF hR hc2
                go_wp2
                refine bodyPost_ret (v := .agg #[.int .i64 (hd / 8), .int .i64 (hd % 8), .int .u64 (lowS s n 4), .string ⟨#[]⟩]) (by simp [results, Tryz.results228, go_sem, c0, c1, c2, c3]) rfl ⟨?_, .inl ⟨_, _, Hres.out, by rw [K5.out]; rfl, ?_⟩⟩
                · exact only5 Ho2.out (by omega) _ _ _ _ _ _
                · exact cur5 Hc2.out (by omega) (by omega) _ _ _ _ _ _
              · have Hres := Lib.hid (show fieldS s p = none by rw [Hf.out, bodyS, if_neg K0.out, if_neg K1.out, if_pos K5.out, if_pos (by omega)])
                have Hfx := Lib.hid (fixed_bad s n b _ hs hn2 (Hc1.out.alloc (.cells #[.int .i64 (hd / 8), .int .i64 (hd % 8), .int .u64 0, .string ⟨#[]⟩] 112)) 4 (by omega))
                go_wp2_with fail
                refine Hfx.out.mono ?_
                rintro e w2 ⟨rfl, ho2⟩
                exact ⟨rfl, Ho1.out.trans (((Only.refl b w1).alloc _).trans ho2), .inr ⟨Hres.out, rfl⟩⟩
            · have q5 : (hd % 8 == 5) = false := by simp [k5]
              by_cases k2 : hd % 8 = 2
              · have q6 : (hd % 8 == 2) = true := by simp [k2]
                have K0 := Lib.hid k0
                have K1 := Lib.hid k1
                have K5 := Lib.hid k5
                have K2 := Lib.hid k2
                have Hbd := Lib.hid (show fieldS s p = (tk s n).bind fun r => if (s.size : Int) - r.2 < r.1 then none else some (⟨hd / 8, 2, 0, s.extract r.2 (r.2 + r.1.toNat)⟩, r.2 + r.1.toNat) by rw [Hf.out, bodyS, if_neg K0.out, if_neg K1.out, if_neg K5.out, if_pos K2.out])
                clear k0 k1 k5 k2
                go_wp2_with fail
                refine (varint_any s n b _ hs hn2 (Hc1.out.alloc _)).mono ?_
                rintro e w2 ⟨ho2, hcase⟩
                have Hg2 := Lib.hid (((Only.refl b w1).alloc _).trans ho2)
                have Ho2 := Lib.hid (Ho1.out.trans Hg2.out)
                have hF := (ho2.block w1.heap.size (by simp) (by have := Hc1.out.lt; omega)).trans (heap_alloc_new w1 _)
                have hR := (ho2.block w.heap.size (by simp; omega) (by omega)).trans ((Below.heap_alloc w1 _ w.heap.size (by omega)).trans Hblk.out)
                have s2 : w1.heap.size + 1 ≤ w2.heap.size := by have := ho2.size; simpa using this
                have HF := Lib.hid hF
                have HR := Lib.hid hR
                clear ho2 hF hR
                rcases hcase with ⟨u, n2, htk2, rfl, hc2⟩ | ⟨htk2, rfl⟩
                case inr => exact ⟨rfl, Ho2.out, .inr ⟨by rw [Hbd.out, htk2]; rfl, rfl⟩⟩
                case inl =>
                  obtain ⟨u0, _, n21, n22⟩ := tk_bd htk2
                  have Htk2 := Lib.hid htk2
                  have Hc2 := Lib.hid hc2
                  clear htk2 hc2
                  by_cases hlong : (s.size : Int) - n2 < u
                  · have Hbb := Lib.hid (bytes_bad s n2 b _ hs n22 Hc2.out u u0 hlong)
                    go_wp2_with fail
                    refine Hbb.out.mono ?_
                    rintro e w3 ⟨rfl, ho3⟩
                    exact ⟨rfl, Ho2.out.trans ho3, .inr ⟨by rw [Hbd.out, Htk2.out]; simp only [Option.bind_some]; rw [if_pos hlong], rfl⟩⟩
                  · obtain ⟨m, rfl⟩ := Int.eq_ofNat_of_zero_le u0
                    have Hbb := Lib.hid (bytes_ok s n2 b _ hs Hc2.out m (by omega))
                    have Hres := Lib.hid (show fieldS s p = some (⟨hd / 8, 2, 0, s.extract n2 (n2 + m)⟩, n2 + m) by rw [Hbd.out, Htk2.out]; simp only [Option.bind_some]; rw [if_neg hlong]; rfl)
                    go_wp2_with fail
                    refine Hbb.out.mono ?_
                    rintro e w3 ⟨rfl, hc3, ho3⟩
                    have hF := (ho3.block w1.heap.size (by omega) (by have := Hc1.out.lt; omega)).trans HF.out
                    have hR := (ho3.block w.heap.size (by omega) (by omega)).trans HR.out
                    have s3 := ho3.size
                    have Ho3 := Lib.hid (Ho2.out.trans ho3)
                    have Hc3 := Lib.hid hc3
                    obtain ⟨⟨a0, a1, a2, a3⟩, ⟨b0, b1, b2, b3⟩⟩ := blk4 hF
                    obtain ⟨⟨c0, c1, c2, c3⟩, ⟨d0, d1, d2, d3⟩⟩ := blk4 hR
                    clear ho3 hF hR hc3
                    go_wp2
                    refine bodyPost_ret (v := .agg #[.int .i64 (hd / 8), .int .i64 (hd % 8), .int .u64 0, .string (s.extract n2 (n2 + m))]) (by simp [results, Tryz.results228, go_sem, c0, c1, c2, c3]) rfl ⟨?_, .inl ⟨_, _, Hres.out, by rw [K2.out]; rfl, ?_⟩⟩
                    · exact only5 Ho3.out (by omega) _ _ _ _ _ _
                    · exact cur5 Hc3.out (by omega) (by omega) _ _ _ _ _ _
              · have q6 : (hd % 8 == 2) = false := by simp [k2]
                have Hres := Lib.hid (show fieldS s p = none by rw [Hf.out, bodyS, if_neg k0, if_neg k1, if_neg k5, if_neg k2])
                clear k0 k1 k5 k2
                go_wp2
                exact ⟨rfl, Ho1.out.alloc _, .inr ⟨Hres.out, rfl⟩⟩
end Go.Proofs.YtbilddeepnnogaaGreatDoor
end
/- Layer 4, the wire: fields; the reader's small ones. -/
section
set_option linter.unusedVariables false
set_option maxRecDepth 100000
namespace Go.Proofs.YtbilddeepnnogaaGreatDoor
open Go.RowKit

theorem is_bad (w : World) : (Instr.typeAssert (.iface 378 (.agg #[])) 20 378 true).run Tryz.prog w = .ok (.tuple #[.agg #[], .bool true]) w := by kernel_rfl

set_option maxRecDepth 100000 in
theorem catch_bad (p : Addr) (x : Int) (w : World) (hc : w.cell? p = some (.int .i64 x)) (hz : w.frozen? p = false) (hp : p.block < w.heap.size) :
    CallsD Tryz.prog 295 #[.pointer (some p)] (.panicking bad) w fun e u' w' =>
      e = .returned (.tuple #[]) ∧ u' = .panicking [{ v := .iface 378 (.agg #[]), recovered := true }] ∧ w' = (w.alloc (.cells #[] 378)).setCell p (.int .i64 3) := by
  refine callsD_of_wpS Tryz.func295 rfl fun c₀ cs hu => ?_
  apply wpS_seq
  apply wpS_region
  simp [wpOpsS, go_sem, recoverD, hu, Tryz.ntmps295, Exit.thenS, bad]
  rw [show #[Value.pointer (some p)] ++ ((Array.replicate 14 undef).setIfInBounds 3 (Value.iface 378 (.agg #[]))).setIfInBounds 0 (Value.iface 378 (.agg #[])) = #[Value.pointer (some p), Value.iface 378 (.agg #[]), undef, undef, Value.iface 378 (.agg #[]), undef, undef, undef, undef, undef, undef, undef, undef, undef, undef] from rfl]
  refine wpS_of_wp ?_
  have hta := is_bad
  have hc' : (w.alloc (.cells #[] 378)).cell? p = some (.int .i64 x) := (World.cell?_alloc_lt w _ p hp).trans hc
  have hz' : (w.alloc (.cells #[] 378)).frozen? p = false := (World.frozen?_alloc_past _ _ _ hp).trans hz
  go_wp2
  cases c₀
  simp_all [bodyPostS, results, Tryz.results295]

theorem catch_idle (p : Addr) (w : World) :
    CallsD Tryz.prog 295 #[.pointer (some p)] .returning w fun e u' w' => e = .returned (.tuple #[]) ∧ u' = .returning ∧ w' = w := by
  refine callsD_of_wpS Tryz.func295 rfl fun c₀ cs hu => ?_
  apply wpS_seq
  apply wpS_region
  simp [wpOpsS, go_sem, recoverD, hu, Tryz.ntmps295, Exit.thenS]
  rw [show #[Value.pointer (some p)] ++ ((Array.replicate 14 undef).setIfInBounds 3 Value.nilIface).setIfInBounds 0 Value.nilIface = #[Value.pointer (some p), Value.nilIface, undef, undef, Value.nilIface, undef, undef, undef, undef, undef, undef, undef, undef, undef, undef] from rfl]
  refine wpS_of_wp ?_
  go_wp2
  cases c₀
  simp_all [bodyPostS, results, Tryz.results295]

/-- What careful leaves of what its function leaves. -/
def CarePost (w : World) (R : Ending → World → Prop) (e : Ending) (w' : World) : Prop :=
  ∃ e1 w1, R e1 w1 ∧ ((e1 = .returned (.tuple #[]) ∧ e = .returned (.int .i64 0) ∧ w' = w1.setCell ⟨w.heap.size, 0, none⟩ (.int .i64 0)) ∨
    (e1 = .panicked bad ∧ e = .returned (.int .i64 3) ∧ w' = (w1.alloc (.cells #[] 378)).setCell ⟨w.heap.size, 0, none⟩ (.int .i64 3)))
/-- What is asked of it. -/
def Careful (w : World) (R : Ending → World → Prop) : Prop :=
  ∀ e w1, R e w1 → (e = .returned (.tuple #[]) ∨ e = .panicked bad) ∧ w1.heap[w.heap.size]? = some (.cells #[.int .i64 0] 39 (0, 0))

set_option maxRecDepth 100000 in
set_option maxHeartbeats 800000 in
theorem careful_227 (a1 a2 a3 : Addr) (w : World) (R : Ending → World → Prop) (h : Calls Tryz.prog 227 #[.pointer (some a1), .pointer (some a2), .pointer (some a3)] (w.alloc (.cells #[.int .i64 0] 39)) R) (hR : Careful w R) :
    Calls Tryz.prog 226 #[.func (.func 227) #[] #[.pointer (some a1), .pointer (some a2), .pointer (some a3)]] w (CarePost w R) := by
  have hmf : ∀ (fn : Fn) (first cap : Array Value) (w : World), (Instr.makeFunc fn first cap).run Tryz.prog w = .ok (.func fn first cap) w := fun _ _ _ _ => rfl
  have Hh := Lib.hid h
  have HR := Lib.hid hR
  clear h hR
  go_enter_defers Tryz.func226, Tryz.ntmps226
  go_wp2_with fail
  refine Hh.out.mono ?_
  intro e w1 hr
  obtain ⟨he, hb⟩ := HR.out e w1 hr
  have hlt : w.heap.size < w1.heap.size := (Array.getElem?_eq_some_iff.1 hb).1
  have c0 : w1.cell? ⟨w.heap.size, 0, none⟩ = some (.int .i64 0) := cell_of_row w1 _ 0 _ 39 (0, 0) hb
  have f0 : w1.frozen? ⟨w.heap.size, 0, none⟩ = false := by simp [World.frozen?, hb]
  have Hr := Lib.hid hr
  clear hb hr
  rcases he with rfl | rfl
  · go_wp2
    refine leaves_cons (f := 295) (args := #[.pointer (some ⟨w.heap.size, 0, none⟩)]) (by simp) (by simp [go_sem]) ?_
    refine (catch_idle _ _).mono ?_
    rintro e u' w'' ⟨rfl, rfl, rfl⟩
    simp [Leaves, settle, results, Tryz.results226, go_sem, c0]
    exact ⟨_, _, Hr.out, .inl ⟨rfl, rfl, rfl⟩⟩
  · go_wp2
    refine leaves_cons (f := 295) (args := #[.pointer (some ⟨w.heap.size, 0, none⟩)]) (by simp) (by simp [go_sem]) ?_
    refine (catch_bad _ 0 _ c0 f0 hlt).mono ?_
    rintro e u' w'' ⟨rfl, rfl, rfl⟩
    have c1 : (w1.alloc (.cells #[] 378)).cell? ⟨w.heap.size, 0, none⟩ = some (.int .i64 0) := (World.cell?_alloc_lt w1 _ _ hlt).trans c0
    have c2 : ((w1.alloc (.cells #[] 378)).setCell ⟨w.heap.size, 0, none⟩ (.int .i64 3)).cell? ⟨w.heap.size, 0, none⟩ = some (.int .i64 3) := World.cell?_setCell_same _ _ _ c1
    simp [Leaves, settle, results, Tryz.results226, go_sem, c2]
    exact ⟨_, _, Hr.out, .inr ⟨rfl, rfl, rfl⟩⟩
/-- Of what was there blocks b and c alone may have turned. -/
structure Only2 (b c : Nat) (w w' : World) : Prop where
  os : w'.os = w.os
  tape : w'.tape = w.tape
  output : w'.output = w.output
  size : w.heap.size ≤ w'.heap.size
  block : ∀ k, k < w.heap.size → k ≠ b → k ≠ c → w'.heap[k]? = w.heap[k]?
theorem Only2.refl (b c : Nat) (w : World) : Only2 b c w w := ⟨rfl, rfl, rfl, Nat.le_refl _, fun _ _ _ _ => rfl⟩
theorem Only2.trans {b c : Nat} {x y z : World} (h : Only2 b c x y) (g : Only2 b c y z) : Only2 b c x z :=
  ⟨g.os.trans h.os, g.tape.trans h.tape, g.output.trans h.output, Nat.le_trans h.size g.size, fun k hk hb hc => (g.block k (by have := h.size; omega) hb hc).trans (h.block k hk hb hc)⟩
theorem Only.two {b : Nat} {x y : World} (h : Only b x y) (c : Nat) : Only2 b c x y := ⟨h.os, h.tape, h.output, h.size, fun k hk hb _ => h.block k hk hb⟩
theorem Only2.snd {b c : Nat} {x y : World} (h : Only2 b c x y) (i : Nat) (u : Value) : Only2 b c x (y.setCell ⟨c, i, none⟩ u) :=
  h.trans ⟨rfl, rfl, rfl, by simp [World.setCell], fun k _ _ hc => Below.heap_setCell _ _ _ _ hc⟩
theorem Only2.drewN {b c : Nat} {x y : World} (h : Only2 b c x y) (q : Nat) : Only2 b c x (y.drewN q) := ⟨h.os, h.tape, h.output, h.size, h.block⟩
theorem Only2.below {b c : Nat} {x y : World} (h : Only2 b c x y) {B : Nat} (hb : B ≤ b) (hc : B ≤ c) (hB : B ≤ x.heap.size) : Below B x y :=
  ⟨h.os, h.tape, h.output, h.size, fun k hk => h.block k (by omega) (by omega) (by omega)⟩
theorem one_cell {w : World} {g : Nat} {v : Value} {t : TypeId} (h : w.heap[g]? = some (.cells #[v] t (0, 0))) : w.cell? ⟨g, 0, none⟩ = some v ∧ w.frozen? ⟨g, 0, none⟩ = false ∧ g < w.heap.size :=
  ⟨cell_of_row w g 0 _ t (0, 0) h, by simp [World.frozen?, h], (Array.getElem?_eq_some_iff.1 h).1⟩
theorem one_set {w : World} {g : Nat} {v : Value} {t : TypeId} (h : w.heap[g]? = some (.cells #[v] t (0, 0))) (u : Value) : (w.setCell ⟨g, 0, none⟩ u).heap[g]? = some (.cells #[u] t (0, 0)) := by
  simp [World.setCell, Array.getElem?_modify, h]

theorem Tryz.info112 : (Tryz.prog.info? 112).map (fun i => (i.zero, i.size, i.bytes)) = some (some (.agg #[.int .i64 0, .int .i64 0, .int .u64 0, .string ⟨#[]⟩]), 4, 40) := by kernel_rfl

def Fd.cells (f : Fd) : List Value := [.int .i64 f.num, .int .i64 f.kind, .int .u64 f.u, .string f.b]
def flat (l : List Fd) : List Value := l.flatMap Fd.cells
theorem flat_cons (f : Fd) (l : List Fd) : flat (f :: l) = f.cells ++ flat l := by simp [flat]
theorem flat_append (a b : List Fd) : flat (a ++ b) = flat a ++ flat b := by simp [flat]
theorem flatP_get (l : List Fd) (j i : Nat) (hi : i < 4) (f : Fd) (hj : l[j]? = some f) : (flat l)[4 * j + i]? = f.cells[i]? := by
  induction l generalizing j with
  | nil => simp at hj
  | cons g l ih =>
    cases j with
    | zero =>
      simp at hj
      subst hj
      rw [flat_cons, List.getElem?_append_left (by simp [Fd.cells]; omega)]; simp
    | succ j =>
      simp at hj
      have e : 4 * (j + 1) + i = g.cells.length + (4 * j + i) := by simp [Fd.cells]; omega
      rw [flat_cons, e, List.getElem?_append_right (by omega), show g.cells.length + (4 * j + i) - g.cells.length = 4 * j + i by omega]
      exact ih j hj

/-- The slice value '.slice A n c' reads as the fields l in the world w, below block B. -/
structure Flds (w : World) (B : Nat) (A : Option Addr) (n : Nat) (l : List Fd) : Prop where
  len : l.length = n
  small : n ≤ maxLen
  at_ : 0 < n → ∃ b off, A = some ⟨b, off, none⟩ ∧ b < B ∧ ∀ j f, l[j]? = some f → w.cell? ⟨b, off + 4 * j, none⟩ = some (.int .i64 f.num) ∧ w.cell? ⟨b, off + 4 * j + 1, none⟩ = some (.int .i64 f.kind) ∧ w.cell? ⟨b, off + 4 * j + 2, none⟩ = some (.int .u64 f.u) ∧ w.cell? ⟨b, off + 4 * j + 3, none⟩ = some (.string f.b)
theorem Flds.keep {w w' : World} {B B' n : Nat} {A : Option Addr} {l : List Fd} (h : Flds w B A n l) (hB : B ≤ B') (hk : ∀ p : Addr, p.block < B → w'.cell? p = w.cell? p) : Flds w' B' A n l :=
  ⟨h.len, h.small, fun hn => by
    obtain ⟨b, off, e, hb, hc⟩ := h.at_ hn
    refine ⟨b, off, e, by omega, fun j f hj => ?_⟩
    obtain ⟨c0, c1, c2, c3⟩ := hc j f hj
    exact ⟨(hk _ hb).trans c0, (hk _ hb).trans c1, (hk _ hb).trans c2, (hk _ hb).trans c3⟩⟩
theorem Flds.below {w w' : World} {B B' n : Nat} {A : Option Addr} {l : List Fd} (h : Flds w B A n l) (hb : Below B w w') (hB : B ≤ B') : Flds w' B' A n l := h.keep hB fun _ hp => hb.cell hp
theorem Flds.drewN {w : World} {B n : Nat} {A : Option Addr} {l : List Fd} (h : Flds w B A n l) (q : Nat) : Flds (w.drewN q) B A n l := h.keep (Nat.le_refl _) fun _ _ => rfl
theorem Flds.alloc {w : World} {B n : Nat} {A : Option Addr} {l : List Fd} (h : Flds w B A n l) (hB : B ≤ w.heap.size) (o : Obj) : Flds (w.alloc o) B A n l :=
  h.keep (Nat.le_refl _) fun p hp => World.cell?_alloc_lt w o p (by omega)

/-- The call's own list of fields. -/
def OwnF (w : World) (B : Nat) (v : Value) (l : List Fd) : Prop := w.ownsRow B 112 4 v l.length (flat l) ∧ l.length ≤ maxLen
theorem ownF_nil (w : World) (B : Nat) : OwnF w B (.slice none 0 0) [] := ⟨World.ownsRow_nil _ _ _ _, Nat.zero_le _⟩
theorem OwnF.form {w : World} {B : Nat} {v : Value} {l : List Fd} (h : OwnF w B v l) : ∃ A c, v = .slice A l.length c := by
  rcases h.1.2 with ⟨rfl, hn⟩ | ⟨g, cap, cur, rfl, _⟩
  · exact ⟨none, 0, by rw [hn]⟩
  · exact ⟨_, _, rfl⟩
theorem OwnF.flds {w : World} {B c n : Nat} {A : Option Addr} {l : List Fd} (h : OwnF w B (.slice A n c) l) (hn : n = l.length) : Flds w w.heap.size A n l := by
  subst hn
  refine ⟨rfl, h.2, fun hn => ?_⟩
  rcases h.1.2 with ⟨_, h0⟩ | ⟨g, cap, cur, e, _, hg, _⟩
  · omega
  · simp only [Value.slice.injEq] at e
    obtain ⟨rfl, _, rfl⟩ := e
    refine ⟨g, 0, rfl, (Array.getElem?_eq_some_iff.1 hg).1, fun j f hj => ?_⟩
    have hlt : j < l.length := by
      rcases Nat.lt_or_ge j l.length with h | h
      · exact h
      · rw [List.getElem?_eq_none h] at hj; cases hj
    have key : ∀ i, i < 4 → w.cell? ⟨g, 0 + 4 * j + i, none⟩ = f.cells[i]? := fun i hi => by
      rw [Nat.zero_add, h.1.cellAt (4 * j + i) (by omega), flatP_get l j i hi f hj]
    exact ⟨key 0 (by omega), key 1 (by omega), key 2 (by omega), key 3 (by omega)⟩
theorem OwnF.below {w w' : World} {B : Nat} {v : Value} {l : List Fd} (h : OwnF w B v l) (hb : Below w.heap.size w w') : OwnF w' B v l := by
  refine ⟨⟨h.1.1, ?_⟩, h.2⟩
  rcases h.1.2 with h1 | ⟨g, cap, cur, e, hB, hg, r⟩
  · exact .inl h1
  · exact .inr ⟨g, cap, cur, e, hB, (hb.block g (Array.getElem?_eq_some_iff.1 hg).1).trans hg, r⟩
theorem OwnF.lower {w : World} {B B' : Nat} {v : Value} {l : List Fd} (h : OwnF w B v l) (hB : B' ≤ B) : OwnF w B' v l := by
  refine ⟨⟨h.1.1, ?_⟩, h.2⟩
  rcases h.1.2 with h1 | ⟨g, cap, cur, e, hb, r⟩
  · exact .inl h1
  · exact .inr ⟨g, cap, cur, e, by omega, r⟩

theorem OwnF.alloc {w : World} {B : Nat} {v : Value} {l : List Fd} (h : OwnF w B v l) (o : Obj) : OwnF (w.alloc o) B v l := h.below ((Below.refl _ _).alloc (Nat.le_refl _) o)
theorem OwnF.drewN {w : World} {B : Nat} {v : Value} {l : List Fd} (h : OwnF w B v l) (q : Nat) : OwnF (w.drewN q) B v l := ⟨h.1, h.2⟩
/-- One field more: the source is the field's own block. -/
theorem wpList_append_f1 {P : Program} (w : World) (f : Fd) {ops : Array Oper} {rest : List Oper} {o : Oper} {a : Act} {Q : Exit → Act → World → Prop} (hgd : o.guard = none) (s y : Operand) (t : TypeId)
    (ho : o.op = .call { callee := .builtin .append, args := #[s, y], argTypes := #[t, t] })
    (i : TypeInfo) (z : Value) (hzc : z.cells.size = 4) (ht : P.underlying t = some (.slice 112)) (hi : P.info? 112 = some i) (hz : i.zero = some z) (hsize : i.size = 4) (hby : i.bytes = 40)
    (B : Nat) (v : Value) (l : List Fd) (hs : a.eval s = v) (hown : OwnF w B v l) (g : Nat) (hx : a.eval y = .slice (some ⟨g, 0, none⟩) 1 1)
    (hg : w.heap[g]? = some (.cells #[.int .i64 f.num, .int .i64 f.kind, .int .u64 f.u, .string f.b] 112 (0, 0)))
    (hlen : (l.length + 1) * 40 ≤ 140737488355328) (hbase : B ≤ w.heap.size)
    (h : ∀ v' w', OwnF w' B v' (l ++ [f]) → w.grownBy w' v.ownBlock → wpList P ops Q rest (a.put o.dst v') w') : wpList P ops Q (o :: rest) a w := by
  obtain ⟨⟨c0, c1, c2, c3⟩, _⟩ := blk4 hg
  refine wpList_append_own _ hgd s y t ho B 112 i z 4 40 ht hi hz hsize hby hzc (by decide) v l.length (flat l) hs hown.1 ⟨g, 0, none⟩ 1 1 f.cells hx rfl ?_ ?_ (by unfold maxLen; omega) (by omega) hbase ?_
  · intro j u hj
    match j, hj with
    | 0, hj => simp [Fd.cells] at hj; subst hj; simpa [Addr.add] using c0
    | 1, hj => simp [Fd.cells] at hj; subst hj; simpa [Addr.add] using c1
    | 2, hj => simp [Fd.cells] at hj; subst hj; simpa [Addr.add] using c2
    | 3, hj => simp [Fd.cells] at hj; subst hj; simpa [Addr.add] using c3
    | j + 4, hj => simp [Fd.cells] at hj
  · intro u hu
    simp [Fd.cells] at hu
    rcases hu with rfl | rfl | rfl | rfl <;> rfl
  · intro v' w' h2 h3 _
    refine h v' w' ⟨?_, by simp; unfold maxLen; omega⟩ h3
    rw [flat_append, show flat [f] = f.cells by simp [flat]]
    simpa using h2
theorem OwnF.grown {a w w' : World} {B : Nat} {v : Value} {l : List Fd} (h : OwnF w B v l) (hb : Below B a w) (hg : w.grownBy w' v.ownBlock) (hB : B ≤ w.heap.size) : Below B a w' :=
  hb.grown hg hB fun k hk => (h.1.lt k hk).1
/-- What a call leaves that hands back a list of fields and an error. -/
def LstF (w : World) (l : List Fd) (err : Int) (e : Ending) (w' : World) : Prop :=
  ∃ A n c, e = .returned (.tuple #[.slice A n c, .int .i64 err]) ∧ n = l.length ∧ OwnF w' w.heap.size (.slice A n c) l ∧ Below w.heap.size w w'
/-- What the fields of any bytes are: three ways. -/
def FdsIs (s : ByteArray) (l : List Fd) (err : Int) : Prop :=
  (16777216 < s.size ∧ l = [] ∧ err = 6) ∨ (s.size ≤ 16777216 ∧ fieldsS s 0 = none ∧ l = [] ∧ err = 3) ∨ (s.size ≤ 16777216 ∧ fieldsS s 0 = some l ∧ err = 0)
theorem lstF_ret {x l : List Fd} {err e2 : Int} {w w' : World} {A : Option Addr} {n c : Nat} (ho : OwnF w' w.heap.size (.slice A n c) x) (hn : n = x.length) (hb : Below w.heap.size w w') (h1 : x = l) (h2 : e2 = err) : LstF w l err (.returned (.tuple #[.slice A n c, .int .i64 e2])) w' := by
  subst h1 h2; exact ⟨_, _, _, rfl, hn, ho, hb⟩

/-- One field more, at a step of a region that draws. -/
theorem step_append_f1 {P : Program} (w : World) (f : Fd) {ops : Array Oper} {o : Oper} {a : Act} {K : Act → World → Prop} {Q : Exit → Act → World → Prop} {E : Prop} (hgd : o.guard = none) (s y : Operand) (t : TypeId)
    (ho : o.op = .call { callee := .builtin .append, args := #[s, y], argTypes := #[t, t] })
    (i : TypeInfo) (z : Value) (hzc : z.cells.size = 4) (ht : P.underlying t = some (.slice 112)) (hi : P.info? 112 = some i) (hz : i.zero = some z) (hsize : i.size = 4) (hby : i.bytes = 40)
    (B : Nat) (v : Value) (l : List Fd) (hs : a.eval s = v) (hown : OwnF w B v l) (g : Nat) (hx : a.eval y = .slice (some ⟨g, 0, none⟩) 1 1)
    (hg : w.heap[g]? = some (.cells #[.int .i64 f.num, .int .i64 f.kind, .int .u64 f.u, .string f.b] 112 (0, 0)))
    (hlen : (l.length + 1) * 40 ≤ 140737488355328) (hbase : B ≤ w.heap.size)
    (h : ∀ v' w', OwnF w' B v' (l ++ [f]) → w.grownBy w' v.ownBlock → K (a.put o.dst v') w') :
    if Region.wanted o (yielded ops a.tmps) = true then Oper.wp P o a w K Q else E := by
  obtain ⟨⟨c0, c1, c2, c3⟩, _⟩ := blk4 hg
  refine step_append_lies w hgd s y t ho B 112 i z 4 40 ht hi hz hsize hby hzc (by decide) v l.length (flat l) hs hown.1 ⟨g, 0, none⟩ 1 1 f.cells hx rfl ?_ ?_ (by decide) (by unfold maxLen; omega) (by omega) hbase _ rfl ?_
  · intro j u hj
    match j, hj with
    | 0, hj => simp [Fd.cells] at hj; subst hj; simpa [Addr.add] using c0
    | 1, hj => simp [Fd.cells] at hj; subst hj; simpa [Addr.add] using c1
    | 2, hj => simp [Fd.cells] at hj; subst hj; simpa [Addr.add] using c2
    | 3, hj => simp [Fd.cells] at hj; subst hj; simpa [Addr.add] using c3
    | j + 4, hj => simp [Fd.cells] at hj
  · intro u hu
    simp [Fd.cells] at hu
    rcases hu with rfl | rfl | rfl | rfl <;> rfl
  · intro g' cap w' h2 h3 _ _
    refine h _ w' ⟨?_, by simp; unfold maxLen; omega⟩ h3
    rw [flat_append, show flat [f] = f.cells by simp [flat]]
    simpa using h2
theorem Only2.alloc {b c : Nat} {x y : World} (h : Only2 b c x y) (o : Obj) : Only2 b c x (y.alloc o) :=
  h.trans ⟨rfl, rfl, rfl, by simp, fun k hk _ _ => Below.heap_alloc _ _ _ hk⟩
theorem Only2.grown {b c : Nat} {x y z : World} {r : Option Nat} (h : Only2 b c x y) (hg : y.grownBy z r) (hr : ∀ k, r = some k → x.heap.size ≤ k) : Only2 b c x z := by
  have hb := (Below.refl x.heap.size y).grown hg h.size hr
  exact ⟨hb.os.trans h.os, hb.tape.trans h.tape, hb.output.trans h.output, Nat.le_trans h.size hb.size, fun k hk h1 h2 => (hb.block k hk).trans (h.block k hk h1 h2)⟩

theorem field_ok (s : ByteArray) (p b : Nat) (hs : s.size ≤ 140737488351232) (hp : p ≤ s.size) {f : Fd} {n : Nat} (hf : fieldS s p = some (f, n)) (w : World) (hc : Cur w b s p) :
    Calls Tryz.prog 228 #[.pointer (some ⟨b, 0, none⟩)] w fun e w' => Only b w w' ∧ e = .returned f.val ∧ Cur w' b s n := by
  refine (field_any s p b w hs hp hc).mono ?_
  rintro e w' ⟨ho, ⟨f', n', h1, h2, h3⟩ | ⟨h1, _⟩⟩
  · rw [hf] at h1; cases h1; exact ⟨ho, h2, h3⟩
  · rw [hf] at h1; cases h1
theorem field_bad (s : ByteArray) (p b : Nat) (hs : s.size ≤ 140737488351232) (hp : p ≤ s.size) (hf : fieldS s p = none) (w : World) (hc : Cur w b s p) :
    Calls Tryz.prog 228 #[.pointer (some ⟨b, 0, none⟩)] w fun e w' => Only b w w' ∧ e = .panicked bad := by
  refine (field_any s p b w hs hp hc).mono ?_
  rintro e w' ⟨ho, ⟨f', n', h1, h2, h3⟩ | ⟨h1, h2⟩⟩
  · rw [hf] at h1; cases h1
  · exact ⟨ho, h2⟩

/-- The call's own list outlives what turns one block below it. -/
theorem OwnF.only {w w' : World} {B b : Nat} {v : Value} {l : List Fd} (h : OwnF w B v l) (ho : Only b w w') (hb : b < B) (_ : B ≤ w.heap.size) : OwnF w' B v l := by
  refine ⟨⟨h.1.1, ?_⟩, h.2⟩
  rcases h.1.2 with h1 | ⟨g, cap, cur, e, hB, hg, r⟩
  · exact .inl h1
  · exact .inr ⟨g, cap, cur, e, hB, (ho.block g (Array.getElem?_eq_some_iff.1 hg).1 (by omega)).trans hg, r⟩

theorem OwnF.far {a y z : World} {B k : Nat} {v : Value} {l : List Fd} (h : OwnF a B v l) (hg : y.grownBy z v.ownBlock) (hk : k < B) (hB : B ≤ y.heap.size) : z.heap[k]? = y.heap[k]? :=
  hg.block k (by omega) fun e => by have := (h.1.lt k e.symm).1; omega

theorem OwnF.set_far {w : World} {B k i : Nat} {v : Value} {l : List Fd} (h : OwnF w B v l) (hk : k < B) (u : Value) : OwnF (w.setCell ⟨k, i, none⟩ u) B v l := by
  refine ⟨⟨h.1.1, ?_⟩, h.2⟩
  rcases h.1.2 with h1 | ⟨g, cap, cur, e, hB, hg, r⟩
  · exact .inl h1
  · exact .inr ⟨g, cap, cur, e, hB, (Below.heap_setCell _ _ _ _ (by dsimp only; omega)).trans hg, r⟩

/-- What the inner function of Fields leaves. -/
def FldsPost (s : ByteArray) (N M : Nat) (w : World) (e : Ending) (w' : World) : Prop :=
  Only2 N M w w' ∧ ((∃ l v, fieldsS s 0 = some l ∧ e = .returned (.tuple #[]) ∧ w'.heap[M]? = some (.cells #[v] 65 (0, 0)) ∧ OwnF w' w.heap.size v l) ∨ (fieldsS s 0 = none ∧ e = .panicked bad))

set_option maxRecDepth 100000 in
set_option maxHeartbeats 1600000 in
theorem fields1_any (s : ByteArray) (N C S M : Nat) (w : World) (hsm : s.size ≤ 16777216) (hc : Cur w N s 0)
    (hC : w.heap[C]? = some (.cells #[.pointer (some ⟨N, 0, none⟩)] 323 (0, 0))) (hS : w.heap[S]? = some (.cells #[.string s] 9 (0, 0))) (hM : w.heap[M]? = some (.cells #[.slice none 0 0] 65 (0, 0)))
    (h1 : N < C) (h2 : S < N) (h3 : C < M) :
    Calls Tryz.prog 227 #[.pointer (some ⟨C, 0, none⟩), .pointer (some ⟨S, 0, none⟩), .pointer (some ⟨M, 0, none⟩)] w (FldsPost s N M w) := by
  have hs : s.size ≤ 140737488351232 := by omega
  obtain ⟨i0, hi, hz0, hz1, hz2⟩ := info_parts Tryz.info112
  have Hc := Lib.hid hc
  have HC := Lib.hid hC
  have HS := Lib.hid hS
  have HM := Lib.hid hM
  have lC := (one_cell hC).2.2
  have lS := (one_cell hS).2.2
  have lM := (one_cell hM).2.2
  have lN := hc.lt
  clear hC hS hM hc
  go_enter Tryz.func227, Tryz.ntmps227
  go_wp2_with fail
  go_loopg [] s.size (fun k wr => ∃ p : Nat, ∃ x : List Fd, ∃ v : Value, p + k = s.size ∧ x.length ≤ p ∧ Hid ((fieldsS s p).map (x ++ ·) = fieldsS s 0) ∧ Hid (Cur wr N s p) ∧ Hid (wr.heap[M]? = some (.cells #[v] 65 (0, 0))) ∧ Hid (OwnF wr w.heap.size v x) ∧ Hid (Only2 N M w wr))
  case atStart => exact ⟨0, [], _, by omega, by simp, Lib.hid (by simp), Hc, HM, Lib.hid (ownF_nil _ _), Lib.hid (Only2.refl _ _ _)⟩
  case round =>
    obtain ⟨p, x, v, hpk, hxl, Hr, Hcu, Hm, Ho, Hb⟩ := hrel
    have HCr := Lib.hid ((Hb.out.block C lC (by omega) (by omega)).trans HC.out)
    have HSr := Lib.hid ((Hb.out.block S lS (by omega) (by omega)).trans HS.out)
    obtain ⟨k0, k1, k2⟩ := one_cell HCr.out
    obtain ⟨j0, j1, j2⟩ := one_cell HSr.out
    obtain ⟨m0, m1, m2⟩ := one_cell Hm.out
    have n0 := Hcu.out.at_
    have hsz := Hb.out.size
    by_cases hlt : p < s.size
    · have q : (decide ((p : Int) < (s.size : Int))) = true := by simp; omega
      go_wp2_with fail
      go_quiet (fail)
      go_wp2_with fail
      cases hf : fieldS s p with
      | none =>
        have Hf := Lib.hid (show fieldsS s 0 = none by rw [← Hr.out, fields_bad hlt hf]; rfl)
        have Hcall := Lib.hid (field_bad s p N hs (by omega) hf)
        clear hf
        refine wp_region_any (by kernel_rfl) ?_
        try (change wpAny _ _ _ _ _ _ _ (World.drew _))
        refine wpAny_ready (rs := [0, 1]) (by kernel_rfl) (by simp) ?_
        refine AllReady.cons rfl (fun K hK => ?_) ?_
        · go_simp
          refine hK _ _ ?_
          clear hK K
          refine wpAny_ready (rs := [1]) (by kernel_rfl) (by simp) ?_
          refine AllReady.cons rfl (fun K hK => ?_) AllReady.nil
          go_simp
          refine hK _ _ ?_
          clear hK K
          refine wpAny_ready (rs := [2]) (by kernel_rfl) (by simp) ?_
          refine AllReady.cons rfl (fun K hK => ?_) AllReady.nil
          go_simp
          (go_wp2_with (first | (go_at_call 228; refine (Hcall.out _ (Hcu.out.drewN _)).mono ?_; rintro e w1 ⟨ho, rfl⟩; exact ⟨rfl, (Hb.out.drewN _).trans (ho.two M), .inr ⟨Hf.out, rfl⟩⟩)))
        · refine AllReady.cons rfl (fun K hK => ?_) AllReady.nil
          go_simp
          refine hK _ _ ?_
          clear hK K
          refine wpAny_ready (rs := [0, 2]) (by kernel_rfl) (by simp) ?_
          refine AllReady.cons rfl (fun K hK => ?_) ?_
          · go_simp
            refine hK _ _ ?_
            clear hK K
            refine wpAny_ready (rs := [2]) (by kernel_rfl) (by simp) ?_
            refine AllReady.cons rfl (fun K hK => ?_) AllReady.nil
            go_simp
            (go_wp2_with (first | (go_at_call 228; refine (Hcall.out _ (Hcu.out.drewN _)).mono ?_; rintro e w1 ⟨ho, rfl⟩; exact ⟨rfl, (Hb.out.drewN _).trans (ho.two M), .inr ⟨Hf.out, rfl⟩⟩)))
          · refine AllReady.cons rfl (fun K hK => ?_) AllReady.nil
            go_simp
            (go_wp2_with (first | (go_at_call 228; refine (Hcall.out _ (Hcu.out.drewN _)).mono ?_; rintro e w1 ⟨ho, rfl⟩; exact ⟨rfl, (Hb.out.drewN _).trans (ho.two M), .inr ⟨Hf.out, rfl⟩⟩)))
      | some fn =>
        obtain ⟨⟨num, kind, u, b⟩, n⟩ := fn
        have Hcall := Lib.hid (field_ok s p N hs (by omega) hf)
        have Hf := Lib.hid hf
        clear hf
        go_region_law (first
          | (go_simp; go_at_call 228; refine (Hcall.out _ (Hcu.out.drewN _)).mono ?_; rintro e w1 ⟨ho, rfl, hcu1⟩; unfold Fd.val; have HM1 := Lib.hid ((ho.block M m2 (by omega)).trans Hm.out); obtain ⟨m0', m1', m2'⟩ := one_cell HM1.out; have Hcu1 := Lib.hid hcu1; have Ho1 := Lib.hid ho; have Own1 := Lib.hid ((Ho.out.drewN _).only ho (by omega) hsz); have z1 : wr.heap.size ≤ w1.heap.size := ho.size; clear hcu1 ho; dsimp only)
          | (refine step_append_f1 _ ⟨num, kind, u, b⟩ rfl (.tmp 10) (.tmp 13) 65 rfl i0 _ rfl Tryz.underlying65 hi hz0 hz1 hz2 w.heap.size v x rfl (Own1.out.alloc _) w1.heap.size rfl (heap_alloc_new w1 _) (by omega) (by simp; omega) ?_; intro v' w2 ho2 hg2; obtain ⟨A', c', rfl⟩ := ho2.form; have f2 : ∀ k, k < w.heap.size → w2.heap[k]? = w1.heap[k]? := fun k hk => (Ho.out.far hg2 hk (by simp; omega)).trans (Below.heap_alloc _ _ _ (by omega)); have HM2 := Lib.hid ((f2 M lM).trans HM1.out); obtain ⟨q0, q1, q2⟩ := one_cell HM2.out; have HO2 := Lib.hid ho2; have HG2 := Lib.hid hg2; have F2 := Lib.hid f2; clear f2 ho2 hg2))
        all_goals
          have hbd := fieldS_bd Hf.out
          have Hmore := Lib.hid (fields_more hlt Hf.out Hr.out)
          have Hcu2 := Lib.hid (show Cur w2 N s n from (F2.out N lN).trans Hcu1.out)
          have Hb2 := Lib.hid ((((Hb.out.drewN _).trans (Ho1.out.two M)).alloc _).grown HG2.out fun k hk => (Ho.out.1.lt k hk).1)
          go_wp2_with fail
          go_roundg (s.size - n)
          case measure => omega
          case rel => exact ⟨n, x ++ [⟨num, kind, u, b⟩], _, by omega, by simp; omega, Hmore, Lib.hid (Hcu2.out.far (by dsimp only; omega) _), Lib.hid (one_set HM2.out _), Lib.hid (OwnF.set_far (by simpa using HO2.out) lM _), Lib.hid (Hb2.out.snd _ _)⟩
    · have q : (decide ((p : Int) < (s.size : Int))) = false := by simp; omega
      go_wp2_with fail
      go_quiet (fail)
      go_wp2_with fail
      go_end0
      have e0 := Hr.out
      rw [fields_end hlt] at e0
      simp at e0
      exact ⟨Hb.out.drewN _, .inl ⟨x, v, e0.symm, rfl, Hm.out, Ho.out.drewN _⟩⟩
theorem three_blocks (w : World) (a b c : Obj) : (((w.alloc a).alloc b).alloc c).heap[w.heap.size]? = some a ∧ (((w.alloc a).alloc b).alloc c).heap[w.heap.size + 1]? = some b ∧ (((w.alloc a).alloc b).alloc c).heap[w.heap.size + 1 + 1]? = some c ∧ (((w.alloc a).alloc b).alloc c).heap.size = w.heap.size + 3 := by
  have e1 : (w.alloc a).heap.size = w.heap.size + 1 := by simp
  have e2 : ((w.alloc a).alloc b).heap.size = w.heap.size + 1 + 1 := by simp
  have h1 := heap_alloc_new (w.alloc a) b
  have h2 := heap_alloc_new ((w.alloc a).alloc b) c
  rw [e1] at h1
  rw [e2] at h2
  exact ⟨(Below.heap_alloc _ c _ (by omega)).trans ((Below.heap_alloc _ b _ (by omega)).trans (heap_alloc_new w a)), (Below.heap_alloc _ c _ (by omega)).trans h1, h2, by simp⟩
theorem below_drewN {B : Nat} {a w : World} (h : Below B a w) (q : Nat) : Below B a (w.drewN q) := ⟨h.os, h.tape, h.output, h.size, h.block⟩
theorem four_blocks (w : World) (a b c d : Obj) :
    ((((w.alloc a).alloc b).alloc c).alloc d).heap.size = w.heap.size + 4 ∧ ((((w.alloc a).alloc b).alloc c).alloc d).heap[w.heap.size]? = some a ∧ ((((w.alloc a).alloc b).alloc c).alloc d).heap[w.heap.size + 1]? = some b ∧
      ((((w.alloc a).alloc b).alloc c).alloc d).heap[w.heap.size + 1 + 1]? = some c ∧ ((((w.alloc a).alloc b).alloc c).alloc d).heap[w.heap.size + 1 + 1 + 1]? = some d := by
  obtain ⟨k1, k2, k3, k0⟩ := three_blocks w a b c
  have hd := heap_alloc_new (((w.alloc a).alloc b).alloc c) d
  refine ⟨by simp, (Below.heap_alloc _ _ _ (by omega)).trans k1, (Below.heap_alloc _ _ _ (by omega)).trans k2, (Below.heap_alloc _ _ _ (by omega)).trans k3, ?_⟩
  rw [k0] at hd
  exact hd

set_option maxRecDepth 100000 in
set_option maxHeartbeats 1600000 in
theorem pfields_any (s : ByteArray) (w : World) (hs : s.size ≤ 140737488351232) (l : List Fd) (err : Int) (h : FdsIs s l err) :
    Calls Tryz.prog 162 #[.string s] w (LstF w l err) := by
  by_cases hbig : 16777216 < s.size
  · have e : l = [] ∧ err = 6 := by
      rcases h with ⟨_, h⟩ | ⟨h, _⟩ | ⟨h, _⟩
      · exact h
      · omega
      · omega
    obtain ⟨rfl, rfl⟩ := e
    clear h
    go_enter Tryz.func162, Tryz.ntmps162
    go_wp2
    go_ret2
    exact lstF_ret (ownF_nil _ _) rfl ((Below.refl _ _).alloc (Nat.le_refl _) _) rfl rfl
  · have H := Lib.hid h
    clear h
    go_enter Tryz.func162, Tryz.ntmps162
    go_wp2_with fail
    obtain ⟨k0, kS, kN, kC, kM⟩ := four_blocks w (.cells #[.string s] 9) (.cells #[.string s, .int .i64 0] 325) (.cells #[.pointer (some ⟨w.heap.size + 1, 0, none⟩)] 323) (.cells #[.slice none 0 0] 65)
    generalize hW : (((w.alloc (.cells #[.string s] 9)).alloc (.cells #[.string s, .int .i64 0] 325)).alloc (.cells #[.pointer (some ⟨w.heap.size + 1, 0, none⟩)] 323)).alloc (.cells #[.slice none 0 0] 65) = W at k0 kS kN kC kM ⊢
    have hbW : Below w.heap.size w W := by rw [← hW]; exact ((((Below.refl _ _).alloc (Nat.le_refl _) _).alloc (by simp) _).alloc (by simp; omega) _).alloc (by simp; omega) _
    clear hW
    have T1 := fields1_any s (w.heap.size + 1) (w.heap.size + 1 + 1) w.heap.size (w.heap.size + 1 + 1 + 1) (W.alloc (.cells #[.int .i64 0] 39)) (by omega) ((Below.heap_alloc _ _ _ (by omega)).trans kN) ((Below.heap_alloc _ _ _ (by omega)).trans kC) ((Below.heap_alloc _ _ _ (by omega)).trans kS) ((Below.heap_alloc _ _ _ (by omega)).trans kM) (by omega) (by omega) (by omega)
    refine (careful_227 _ _ _ W _ T1 ?_).mono ?_
    · rintro e w1 ⟨ho, hcase⟩
      refine ⟨?_, (ho.block _ (by simp) (by omega) (by omega)).trans (heap_alloc_new W _)⟩
      rcases hcase with ⟨_, _, _, rfl, _⟩ | ⟨_, rfl⟩
      · exact .inl rfl
      · exact .inr rfl
    rintro e w2 ⟨e1, w1, ⟨ho, hcase⟩, hend⟩
    have s1 : w.heap.size + 5 ≤ w1.heap.size := by have := ho.size; simp at this; omega
    have Hbel := Lib.hid (hbW.trans (((Below.refl _ _).alloc (by omega) _).trans (ho.below (by omega) (by omega) (by simp; omega))))
    have z1 : W.heap.size ≤ w.heap.size + 4 := by omega
    have z2 : w.heap.size + 4 ≤ W.heap.size := by omega
    clear ho hbW T1 k0 kS kN kC kM
    rcases hend with ⟨rfl, rfl, rfl⟩ | ⟨rfl, rfl, rfl⟩
    · rcases hcase with ⟨l', v, hl, _, hv, hown⟩ | ⟨_, h⟩
      · have e3 : l' = l ∧ 0 = err := by
          rcases H.out with ⟨h, _⟩ | ⟨_, h2, _⟩ | ⟨_, h2, rfl⟩
          · omega
          · rw [hl] at h2; cases h2
          · rw [hl] at h2; cases h2; exact ⟨rfl, rfl⟩
        have E3 := Lib.hid e3
        have c0 : (w1.setCell ⟨W.heap.size, 0, none⟩ (.int .i64 0)).cell? ⟨w.heap.size + 1 + 1 + 1, 0, none⟩ = some v := (World.cell?_setCell_other _ _ _ _ (by first | (simp; done) | (simp; omega))).trans (one_cell hv).1
        have Hown := Lib.hid ((hown.lower (B' := w.heap.size) (by simp; omega)))
        have Hown2 := Lib.hid (OwnF.set_far (k := W.heap.size) (i := 0) hown (by simp) (.int .i64 0))
        obtain ⟨A, c, rfl⟩ := hown.form
        clear hl hv hown e3
        go_wp2
        go_ret2
        exact lstF_ret (Hown2.out.lower (by simp; omega)) rfl (Hbel.out.setCell (by dsimp only; omega) _) E3.out.1 E3.out.2
      · cases h
    · rcases hcase with ⟨_, _, _, h, _⟩ | ⟨hn, _⟩
      · cases h
      · have e3 : ([] : List Fd) = l ∧ 3 = err := by
          rcases H.out with ⟨h, _⟩ | ⟨_, _, rfl, rfl⟩ | ⟨_, h2, _⟩
          · omega
          · exact ⟨rfl, rfl⟩
          · rw [hn] at h2; cases h2
        have E3 := Lib.hid e3
        clear hn e3
        go_wp2
        go_ret2
        exact lstF_ret (ownF_nil _ _) rfl ((Hbel.out.alloc (by omega) _).setCell (by dsimp only; omega) _) E3.out.1 E3.out.2
/-- What a refused text panics with. -/
def refu (err : Int) : List PanicEntry := [{ v := .iface 60 (.int .i64 err), recovered := false }]

theorem must_yes (err : Int) (w : World) : Calls Tryz.prog 14 #[.bool true, .int .i64 err] w fun e w' => e = .returned (.tuple #[]) ∧ w = w' := by
  go_enter Tryz.func14, Tryz.ntmps14
  go_wp2
  go_end0
  exact ⟨rfl, rfl⟩
theorem must_no (err : Int) (w : World) : Calls Tryz.prog 14 #[.bool false, .int .i64 err] w fun e w' => e = .panicked (refu err) ∧ w = w' := by
  go_enter Tryz.func14, Tryz.ntmps14
  go_wp2
  exact ⟨rfl, rfl, rfl⟩

theorem text_yes (num u : Int) (b : ByteArray) (w : World) : Calls Tryz.prog 94 #[(Fd.mk num 2 u b).val] w fun e w' => e = .returned (.string b) ∧ Below w.heap.size w w' := by
  unfold Fd.val
  go_enter Tryz.func94, Tryz.ntmps94
  go_wp2_with fail
  refine (must_yes _ _).mono ?_
  rintro e w1 ⟨rfl, rfl⟩
  go_wp2
  go_ret
  exact ⟨rfl, (Below.refl _ _).alloc (Nat.le_refl _) _⟩
/-- A number as one of 64 bits with a sign. -/
def i64 (u : Int) : Int := wrap64 u
theorem varint_yes (num u : Int) (b : ByteArray) (w : World) : Calls Tryz.prog 165 #[(Fd.mk num 0 u b).val] w fun e w' => e = .returned (.int .i64 (i64 u)) ∧ Below w.heap.size w w' := by
  unfold Fd.val
  go_enter Tryz.func165, Tryz.ntmps165
  go_wp2_with fail
  refine (must_yes _ _).mono ?_
  rintro e w1 ⟨rfl, rfl⟩
  go_wp2
  go_ret
  exact ⟨rfl, (Below.refl _ _).alloc (Nat.le_refl _) _⟩
theorem FdsIs.err {s : ByteArray} {l : List Fd} {err : Int} (h : FdsIs s l err) : err = 0 ∨ err = 3 ∨ err = 6 := by
  rcases h with ⟨_, _, rfl⟩ | ⟨_, _, _, rfl⟩ | ⟨_, _, rfl⟩ <;> simp
/-- A message's fields, or the error. -/
def fldsE (s : ByteArray) : Except Int (List Fd) := if 16777216 < s.size then .error 6 else match fieldsS s 0 with | none => .error 3 | some l => .ok l
theorem fldsE_is (s : ByteArray) : (∃ l, fldsE s = .ok l ∧ FdsIs s l 0) ∨ (∃ err, fldsE s = .error err ∧ err ≠ 0 ∧ FdsIs s [] err) := by
  unfold fldsE
  by_cases h : 16777216 < s.size
  · rw [if_pos h]; exact .inr ⟨6, rfl, by decide, .inl ⟨h, rfl, rfl⟩⟩
  · rw [if_neg h]
    cases e : fieldsS s 0 with
    | none => exact .inr ⟨3, rfl, by decide, .inr (.inl ⟨by omega, e, rfl, rfl⟩)⟩
    | some l => exact .inl ⟨l, rfl, .inr (.inr ⟨by omega, e, rfl⟩)⟩
/-- What fields leaves. -/
def FieldsIs (s : ByteArray) (w : World) (e : Ending) (w' : World) : Prop :=
  Below w.heap.size w w' ∧ ((∃ l A c, fldsE s = .ok l ∧ e = .returned (.slice A l.length c) ∧ OwnF w' w.heap.size (.slice A l.length c) l) ∨ (∃ err, fldsE s = .error err ∧ e = .panicked (refu err)))

set_option maxHeartbeats 800000 in
theorem fields_any (s : ByteArray) (w : World) (hs : s.size ≤ 140737488351232) : Calls Tryz.prog 93 #[.string s] w (FieldsIs s w) := by
  rcases fldsE_is s with ⟨l, he, hl⟩ | ⟨err, he, hne, hl⟩
  · have T := pfields_any s w hs l 0 hl
    go_enter Tryz.func93, Tryz.ntmps93
    go_wp2_with fail
    refine T.mono ?_
    rintro e w1 ⟨A1, n1, c1, rfl, rfl, ho1, hb1⟩
    have Ho := Lib.hid ho1
    have Hb := Lib.hid hb1
    have He := Lib.hid he
    clear ho1 hb1 T he hl
    go_wp2_with fail
    refine (must_yes _ _).mono ?_
    rintro e w2 ⟨rfl, rfl⟩
    go_wp2
    go_ret
    exact ⟨Hb.out, .inl ⟨l, _, _, He.out, rfl, Ho.out⟩⟩
  · have T := pfields_any s w hs [] err hl
    have h0 : (err == 0) = false := by simpa using hne
    have He := Lib.hid he
    clear he hne hl
    go_enter Tryz.func93, Tryz.ntmps93
    go_wp2_with fail
    refine T.mono ?_
    rintro e w1 ⟨A1, n1, c1, rfl, rfl, ho1, hb1⟩
    have Hb := Lib.hid hb1
    clear ho1 hb1 T
    go_wp2_with fail
    refine (must_no _ _).mono ?_
    rintro e w2 ⟨rfl, rfl⟩
    go_wp2
    exact ⟨rfl, Hb.out, .inr ⟨err, He.out, rfl⟩⟩
theorem grown_below {w w' : World} (h : Below w.heap.size w w') (r : Option Nat) : w.grownBy w' r := ⟨h.os, h.tape, h.output, h.size, fun k hk _ => h.block k hk⟩
theorem grown_trans {w w1 w2 : World} {r r' : Option Nat} (h : w.grownBy w1 r) (g : w1.grownBy w2 r') (hr : ∀ k, r' = some k → r = some k ∨ w.heap.size ≤ k) : w.grownBy w2 r :=
  ⟨g.os.trans h.os, g.tape.trans h.tape, g.output.trans h.output, Nat.le_trans h.size g.size, fun k hk hne => by
    refine (g.block k (Nat.lt_of_lt_of_le hk h.size) fun e => ?_).trans (h.block k hk hne)
    rcases hr k e.symm with h1 | h1
    · exact hne h1.symm
    · omega⟩
theorem grown_alloc (w : World) (o : Obj) (r : Option Nat) : w.grownBy (w.alloc o) r := grown_below ((Below.refl _ _).alloc (Nat.le_refl _) o) r
end Go.Proofs.YtbilddeepnnogaaGreatDoor
end
