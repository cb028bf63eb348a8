/- Plain: what is written reads back: numbers, packed numbers, a message's fields. -/
import Derived.Test.YtkcnpnnflbibiaaZp
set_option linter.unusedVariables false
namespace Go.Proofs.Ytkcnpnnflbibiaa
open Go.RowKit

theorem i64_u64 {x : Int} (h0 : -9223372036854775808 ≤ x) (h1 : x ≤ 9223372036854775807) : i64 (IntKind.u64.wrap x) = x := by
  unfold i64 wrap64
  simp [IntKind.wrap, IntKind.signed, IntKind.bits]
  omega
theorem byt_flds {l : List Fd} {b : ByteArray} (h : bytE l = .ok b) (hok : ∀ f ∈ l, FdOk f) : fldsE b = .ok l := by
  obtain ⟨h1, h2, rfl⟩ := bytE_size h
  unfold fldsE
  rw [if_neg (by omega), fields_text l h2 hok]
theorem pgo_right (s t : ByteArray) : ∀ f p, pgo (s ++ t) f (s.size + p) = pgo t f p := by
  intro f
  induction f with
  | zero =>
    intro p
    unfold pgo
    rw [size_app]
    by_cases h : p < t.size
    · rw [if_pos h, if_pos (by omega)]
    · rw [if_neg h, if_neg (by omega)]
  | succ f ih =>
    intro p
    unfold pgo
    rw [size_app]
    by_cases h : p < t.size
    · rw [if_pos h, if_pos (by omega), tk_right]
      cases tk t p with
      | none => rfl
      | some r => simp only [Option.map_some, Option.bind_some]; rw [ih]
    · rw [if_neg h, if_neg (by omega)]
theorem pack_right (s t : ByteArray) : packS (s ++ t) s.size = packS t 0 := by
  rw [← pgo_fuel (s ++ t) (t.size - 0) s.size (by rw [size_app]; omega)]
  exact pgo_right s t (t.size - 0) 0
theorem pack_venc (l : List Int) (h : ∀ x ∈ l, 0 ≤ x ∧ x < B64) : packS (strOfNums (l.flatMap venc)) 0 = some l := by
  induction l with
  | nil => exact pack_end (by simp [strOfNums, ByteArray.size])
  | cons x l ih =>
    obtain ⟨h0, h1⟩ := h x (by simp)
    have hp : 0 < (strOfNums (venc x)).size := by rw [strOfNums_size]; exact (vencF_len 9 x).1
    rw [List.flatMap_cons, str_app, pack_step (by rw [size_app]; omega) (tk_left _ (tk_venc x h0 h1)), pack_right, ih (fun y hy => h y (by simp [hy]))]
    rfl
def InR (x : Int) : Prop := -9223372036854775808 ≤ x ∧ x ≤ 9223372036854775807
theorem packed_flat {typ : Int} (ht : typ ≠ 1) (l : List Int) : packed typ l = (l.map IntKind.u64.wrap).flatMap venc := by
  induction l with
  | nil => rfl
  | cons x l ih => simp only [packed, packB, if_neg ht, ih, List.map_cons, List.flatMap_cons]
theorem back_map (l : List Int) (h : ∀ x ∈ l, InR x) : (l.map IntKind.u64.wrap).map i64 = l := by
  induction l with
  | nil => rfl
  | cons x l ih =>
    simp only [List.map_cons]
    rw [i64_u64 (h x (by simp)).1 (h x (by simp)).2, ih (fun y hy => h y (by simp [hy]))]
theorem vars_packed {typ : Int} (ht : typ ≠ 1) (l : List Int) (h : ∀ x ∈ l, InR x) (num : Int) : varsS ⟨num, 2, 0, strOfNums (packed typ l)⟩ = some l := by
  unfold varsS
  rw [if_neg (show ¬ (2 : Int) = 0 by decide), if_pos rfl]
  dsimp only
  rw [packed_flat ht, pack_venc _ (fun y hy => by
    obtain ⟨x, _, rfl⟩ := List.mem_map.1 hy
    exact u64w x)]
  simp only [Option.map_some]
  rw [back_map l h]
theorem vars_one {d : Int} (h : InR d) (num : Int) : varsS ⟨num, 0, IntKind.u64.wrap d, ⟨#[]⟩⟩ = some [d] := by
  unfold varsS
  rw [if_pos rfl, i64_u64 h.1 h.2]
end Go.Proofs.Ytkcnpnnflbibiaa
