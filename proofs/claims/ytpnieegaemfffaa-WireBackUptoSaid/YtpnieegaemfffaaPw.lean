/- Plain laws: fields written are read as they were; fields read are written in no more bytes. -/
import Derived.Test.YtpnieegaemfffaaPj
import Derived.Test.YtpnieegaemfffaaXa
namespace Go.Proofs.Ytpnieegaemfffaa
open Go.RowKit

theorem bt_str (xs : List Int) (hb : ∀ x ∈ xs, 0 ≤ x ∧ x < 256) (k : Nat) (x : Int) (h : xs[k]? = some x) : bt (strOfNums xs) k = x := by
  unfold bt
  rw [strOfNums_data, List.getD_eq_getElem?_getD, List.getElem?_map, h]
  have := hb x (List.mem_of_getElem? h)
  simp only [Option.map_some, Option.getD_some]
  rw [UInt8.toNat_ofNat']
  omega

theorem tkGo_venc (s : ByteArray) (p : Nat) : ∀ g i acc y, i + g = 9 → 0 ≤ y → y < 2 * two g → (∀ j x, (vencF g y)[j]? = some x → bt s (p + i + j) = x) → p + i + (vencF g y).length ≤ s.size →
    tkGo s p (g + 1) i acc = some (acc + y * two i, p + i + (vencF g y).length) := by
  intro g
  induction g with
  | zero =>
    intro i acc y hi h0 h1 hb hl
    rw [show two 0 = 1 from rfl] at h1
    have e : vencF 0 y = [y] := by rw [vencF_stop 0 y (by omega), show y % 256 = y by omega]
    rw [e] at hb hl ⊢
    have h := hb 0 y rfl
    rw [Nat.add_zero] at h
    rw [tkGo, if_neg (by simp at hl; omega), if_neg (by omega), if_pos (by omega)]
    simp only [nx, h, List.length_singleton]
    rw [show y % 128 = y by omega]
  | succ g ih =>
    intro i acc y hi h0 h1 hb hl
    by_cases hy : y < 128
    · have e : vencF (g + 1) y = [y] := by rw [vencF_stop _ y hy, show y % 256 = y by omega]
      rw [e] at hb hl ⊢
      have h := hb 0 y rfl
      rw [Nat.add_zero] at h
      rw [tkGo, if_neg (by simp at hl; omega), if_neg (by omega), if_pos (by omega)]
      simp only [nx, h, List.length_singleton]
      rw [show y % 128 = y by omega]
    · have e := vencF_more g y hy
      rw [e] at hb hl ⊢
      have h := hb 0 _ rfl
      rw [Nat.add_zero] at h
      rw [List.length_cons] at hl
      have ht : two (g + 1) = 128 * two g := two_succ g
      have hk := ih (i + 1) (nx s p i acc) (y / 128) (by omega) (by omega) (by omega) (fun j x hx => by
        have := hb (j + 1) x (by simpa using hx)
        rw [← this]; congr 1; omega) (by omega)
      rw [tkGo, if_neg (by omega), if_neg (by omega), if_neg (by omega), hk]
      have hv : nx s p i acc + y / 128 * two (i + 1) = acc + y * two i := by
        unfold nx
        rw [h, two_succ, show (y % 128 + 128) % 128 = y % 128 by omega]
        have e2 : y = y % 128 + y / 128 * 128 := by omega
        conv => rhs; rw [e2]
        rw [Int.add_mul, Int.mul_assoc, Int.add_assoc]
      rw [hv, List.length_cons]
      congr 2
      omega
theorem tk_venc (u : Int) (h0 : 0 ≤ u) (h1 : u < B64) : tk (strOfNums (venc u)) 0 = some (u, (strOfNums (venc u)).size) := by
  have h := tkGo_venc (strOfNums (venc u)) 0 9 0 0 u (by omega) h0 (by rw [two_9]; unfold B64 at h1; omega) (fun j x hx => by
    rw [Nat.add_zero, Nat.zero_add]
    exact bt_str _ (vencF_byte 9 u h0) j x hx) (by rw [strOfNums_size]; simp [venc])
  unfold tk
  rw [h, strOfNums_size, show two 0 = 1 from rfl]
  simp [venc]

/-- A number read from so many bytes is small. -/
theorem tkGo_min (s : ByteArray) (p : Nat) : ∀ f i acc v n, tkGo s p f i acc = some (v, n) → ∃ y m, 0 ≤ y ∧ v = acc + y * two i ∧ n = p + i + m ∧ 1 ≤ m ∧ y < two m := by
  intro f
  induction f with
  | zero => intro i acc v n h; simp [tkGo] at h
  | succ f ih =>
    intro i acc v n h
    rw [tkGo] at h
    have hb := bt_bd s (p + i)
    split at h
    · cases h
    · split at h
      · cases h
      · split at h
        · rename_i hlt
          simp only [Option.some.injEq, Prod.mk.injEq] at h
          refine ⟨bt s (p + i), 1, hb.1, ?_, by omega, by omega, by rw [two_succ, show two 0 = 1 from rfl]; omega⟩
          rw [← h.1]; unfold nx; rw [show bt s (p + i) % 128 = bt s (p + i) by omega]
        · obtain ⟨y, m, y0, hv, hn, hm, hy⟩ := ih _ _ _ _ h
          refine ⟨bt s (p + i) % 128 + 128 * y, m + 1, by omega, ?_, by omega, by omega, by rw [two_succ]; omega⟩
          rw [hv, two_succ]
          unfold nx
          rw [Int.add_mul, Int.add_assoc, show y * (128 * two i) = 128 * y * two i by rw [← Int.mul_assoc, Int.mul_comm y 128]]
theorem vencF_min : ∀ f y m, 0 ≤ y → 1 ≤ m → y < two m → (vencF f y).length ≤ m := by
  intro f
  induction f with
  | zero => intro y m _ hm _; simp [vencF]; omega
  | succ f ih =>
    intro y m h0 hm hy
    by_cases h : y < 128
    · rw [vencF_stop _ _ h]; simp; omega
    · rw [vencF_more _ _ h]
      obtain ⟨k, rfl⟩ : ∃ k, m = k + 1 := ⟨m - 1, by omega⟩
      have hk : k ≠ 0 := fun e => by subst e; rw [two_succ, show two 0 = 1 from rfl] at hy; omega
      rw [two_succ] at hy
      have := ih (y / 128) k (by omega) (by omega) (by omega)
      simp; omega
theorem tk_min {s : ByteArray} {p : Nat} {u : Int} {n : Nat} (h : tk s p = some (u, n)) : p + (strOfNums (venc u)).size ≤ n := by
  obtain ⟨y, m, y0, hv, hn, hm, hy⟩ := tkGo_min s p 10 0 0 u n h
  rw [show two 0 = 1 from rfl] at hv
  have e : u = y := by omega
  subst e
  have := vencF_min 9 u m y0 hm hy
  rw [strOfNums_size]
  unfold venc
  omega
theorem lowS_byt (s : ByteArray) : ∀ n p u, 0 ≤ u → u < 256 ^ n → (∀ i, i < n → bt s (p + i) = byt u i) → lowS s p n = u := by
  intro n
  induction n with
  | zero => intro p u h0 h1 _; simp at h1; simp [lowS]; omega
  | succ n ih =>
    intro p u h0 h1 hb
    have hq : u / 256 < 256 ^ n := Int.ediv_lt_of_lt_mul (by omega) (by rw [Int.pow_succ] at h1; exact h1)
    have hr := ih (p + 1) (u / 256) (by omega) hq (fun i hi => by
      rw [show p + 1 + i = p + (i + 1) by omega, hb (i + 1) (by omega)]
      unfold byt
      rw [← byt_step, Int.ediv_ediv_of_nonneg (Int.pow_nonneg (by omega)), Int.mul_comm, ← Int.ediv_ediv_of_nonneg (by omega)])
    have h := hb 0 (by omega)
    rw [lowS, hr, ← Nat.add_zero p, h]
    simp [byt]
    omega
theorem leS_byte (n : Nat) (u : Int) : ∀ x ∈ leS n u, 0 ≤ x ∧ x < 256 := by
  intro x hx
  simp only [leS, List.mem_map] at hx
  obtain ⟨i, _, rfl⟩ := hx
  unfold byt; omega
theorem lowS_leS (n : Nat) (u : Int) (h0 : 0 ≤ u) (h1 : u < 256 ^ n) : lowS (strOfNums (leS n u)) 0 n = u :=
  lowS_byt _ n 0 u h0 h1 fun i hi => by
    rw [Nat.zero_add]
    exact bt_str _ (leS_byte n u) i _ (by simp [leS, hi])
theorem leS_size (n : Nat) (u : Int) : (strOfNums (leS n u)).size = n := by rw [strOfNums_size]; simp [leS]
end Go.Proofs.Ytpnieegaemfffaa
