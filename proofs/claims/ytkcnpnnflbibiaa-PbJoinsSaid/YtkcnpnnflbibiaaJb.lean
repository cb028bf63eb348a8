/- Plain: a tensor that is written reads back. -/
import Derived.Test.YtkcnpnnflbibiaaJa
import Derived.Test.YtkcnpnnflbibiaaAi
set_option linter.unusedVariables false
namespace Go.Proofs.Ytkcnpnnflbibiaa
open Go.RowKit

theorem step_dim {d : Int} (h : InR d) (a : TAcc) : tStep a ⟨1, 0, IntKind.u64.wrap d, ⟨#[]⟩⟩ = .ok { a with dims := a.dims ++ [d] } := by
  unfold tStep
  rw [if_pos rfl, vars_one h 1]
  rfl
theorem run_dims (l : List Int) (h : ∀ d ∈ l, InR d) : ∀ (a : TAcc) (m : List Fd), runF tStep a (dimFds l ++ m) = runF tStep { a with dims := a.dims ++ l } m := by
  induction l with
  | nil => intro a m; simp [dimFds]
  | cons d l ih =>
    intro a m
    have e : dimFds (d :: l) ++ m = ⟨1, 0, IntKind.u64.wrap d, ⟨#[]⟩⟩ :: (dimFds l ++ m) := rfl
    rw [e]
    simp only [runF, step_dim (h d (by simp)) a]
    rw [ih (fun x hx => h x (by simp [hx]))]
    simp
theorem run_append {α : Type} (g : α → Fd → Except Int α) (a : α) (l m : List Fd) : runF g a (l ++ m) = (match runF g a l with | .error e => .error e | .ok b => runF g b m) := by
  induction l generalizing a with
  | nil => rfl
  | cons f l ih =>
    simp only [List.cons_append, runF]
    cases g a f with
    | error e => rfl
    | ok b => exact ih b
theorem chk_bd {x : Int} (h : chk 1 x = true) : 0 ≤ x ∧ x < 4294967296 := by
  unfold chk at h
  rw [if_pos rfl] at h
  simp only [Bool.and_eq_true, beq_iff_eq] at h
  have := h.1
  omega
theorem up_low (s : ByteArray) : upS s 4 = lowS s 0 4 := by
  simp only [upS, lowS, Nat.zero_add, Nat.reduceAdd]
  omega
theorem flt_back {x : Int} (h : chk 1 x = true) : flt (upS (strOfNums (leS 4 x)) 4) = x := by
  obtain ⟨h0, h1⟩ := chk_bd h
  rw [up_low, lowS_leS 4 x h0 (by simpa using h1)]
  unfold flt
  rw [Int.emod_eq_of_lt h0 h1, if_pos h]
theorem elems_cons (g : Int → Int) (a s : ByteArray) (ha : a.size = 4) (k : Nat) : elems g (a ++ s) 4 (k + 1) = g (upS a 4) :: elems g s 4 k := by
  unfold elems
  rw [List.range_succ_eq_map, List.map_cons, List.map_map]
  refine List.cons_eq_cons.2 ⟨?_, ?_⟩
  · have : piece (a ++ s) 4 0 = a := by
      unfold piece
      rw [extract_left _ _ _ _ (by omega)]
      apply list_ext
      simp [ha.symm]
    rw [this]
  · apply List.map_congr_left
    intro j _
    simp only [Function.comp_apply]
    have : piece (a ++ s) 4 (j + 1) = piece s 4 j := by
      unfold piece
      rw [show 4 * (j + 1) = a.size + 4 * j by omega, show a.size + 4 * j + 4 = a.size + (4 * j + 4) by omega, extract_right]
    rw [this]
theorem floats_back (l : List Int) (h : ∀ x ∈ l, chk 1 x = true) : (strOfNums (packed 1 l)).size = 4 * l.length ∧ elems flt (strOfNums (packed 1 l)) 4 l.length = l := by
  induction l with
  | nil => exact ⟨by simp [packed, strOfNums, ByteArray.size], by simp [elems]⟩
  | cons x l ih =>
    obtain ⟨i1, i2⟩ := ih (fun y hy => h y (by simp [hy]))
    have e : strOfNums (packed 1 (x :: l)) = strOfNums (leS 4 x) ++ strOfNums (packed 1 l) := by
      rw [← str_app]; rfl
    have z : (strOfNums (leS 4 x)).size = 4 := leS_size 4 x
    rw [e]
    refine ⟨by rw [size_app, z, i1, List.length_cons]; omega, ?_⟩
    rw [List.length_cons, elems_cons flt _ _ z, i2, flt_back (h x (by simp))]
theorem floats_packed (l : List Int) (h : ∀ x ∈ l, chk 1 x = true) (num : Int) : floatsS ⟨num, 2, 0, strOfNums (packed 1 l)⟩ = some l := by
  obtain ⟨h1, h2⟩ := floats_back l h
  unfold floatsS
  rw [if_neg (show ¬ (2 : Int) = 5 by decide)]
  dsimp only
  rw [if_pos ⟨rfl, by rw [h1]; omega⟩, h1, Nat.mul_div_cancel_left _ (by decide), h2]
/-- What the fields of a tensor without floats give. -/
theorem ten_run {name : ByteArray} {t : Tn} (h1 : t.typ ≠ 1) (hd : ∀ d ∈ t.dims, InR d) (he : ∀ d ∈ t.data, InR d) (ht : InR t.typ) :
    runF tStep .none (tenFds name t) = .ok ⟨t.dims, [], if t.typ = 7 then [] else t.data, if t.typ = 7 then t.data else [], t.typ, name, ⟨#[]⟩⟩ := by
  unfold tenFds
  rw [List.append_assoc, List.append_assoc, run_dims t.dims hd]
  by_cases h7 : t.typ = 7
  · have ha : atOf t.typ = 7 := by rw [h7]; rfl
    have hv := vars_packed h1 t.data he 7
    rw [ha]
    simp only [List.cons_append, List.nil_append, runF, TAcc.none]
    rw [if_pos h7, if_pos h7]
    simp [tStep, orErr, hv, i64_u64 ht.1 ht.2, Except.map]
  · have ha : atOf t.typ = 5 := by unfold atOf; rw [if_neg h1, if_neg h7]
    have hv := vars_packed h1 t.data he 5
    rw [ha]
    simp only [List.cons_append, List.nil_append, runF, TAcc.none]
    simp [tStep, orErr, hv, i64_u64 ht.1 ht.2, h7, Except.map]
theorem ten_run1 {name : ByteArray} {t : Tn} (h1 : t.typ = 1) (hd : ∀ d ∈ t.dims, InR d) (he : ∀ x ∈ t.data, chk 1 x = true) :
    runF tStep .none (tenFds name t) = .ok ⟨t.dims, t.data, [], [], t.typ, name, ⟨#[]⟩⟩ := by
  unfold tenFds
  rw [List.append_assoc, List.append_assoc, run_dims t.dims hd]
  have ha : atOf t.typ = 4 := by rw [h1]; rfl
  have hv := floats_packed t.data he 4
  have ht : i64 (IntKind.u64.wrap t.typ) = t.typ := i64_u64 (by omega) (by omega)
  rw [ha, h1] at *
  simp only [List.cons_append, List.nil_append, runF, TAcc.none]
  simp [tStep, orErr, hv, ht, Except.map]
theorem tchk_parts {t : Tn} (h : tchk t = 0) : typd t.typ = true ∧ errC t.dims = 0 ∧ AllChk t.typ t.data := by
  unfold tchk at h
  by_cases h1 : typd t.typ = false
  · rw [if_pos h1] at h; omega
  · rw [if_neg h1] at h
    by_cases h2 : errC t.dims ≠ 0
    · rw [if_pos h2] at h; exact absurd h h2
    · rw [if_neg h2] at h
      by_cases h3 : (t.data.length : Int) ≠ prod t.dims ∨ ¬ AllChk t.typ t.data
      · rw [if_pos h3] at h; omega
      · exact ⟨by simpa using h1, by omega, by
          by_cases h4 : AllChk t.typ t.data
          · exact h4
          · exact absurd (Or.inr h4) h3⟩
theorem allChk_mem {typ : Int} {l : List Int} (h : AllChk typ l) : ∀ x ∈ l, chk typ x = true := by
  intro x hx
  obtain ⟨j, hj⟩ := List.getElem?_of_mem hx
  have hlt : j < l.length := by
    rcases Nat.lt_or_ge j l.length with h1 | h1
    · exact h1
    · rw [List.getElem?_eq_none h1] at hj; simp at hj
  have := h j hlt
  rw [ix_get? l j hlt] at hj
  rw [← Option.some.inj hj]
  exact this
theorem tEnd_ok {a : TAcc} {t : Tn} (h : tchk t = 0) (hn : a.name.size ≤ 100) (hd : a.dims = t.dims) (ht : a.typ = t.typ) (hr : tData a = some t.data) : tEnd a = .ok ⟨a.name, t⟩ := by
  obtain ⟨p1, p2, p3⟩ := tchk_parts h
  unfold tEnd
  rw [ht, hd, hr, p1]
  simp [p2, h]
  omega
/-- A told tensor reads back. -/
theorem tensor_back {name b : ByteArray} {t : Tn} (h : tchk t = 0) (hn : name.size ≤ 100) (hd : ∀ d ∈ t.dims, InR d) (he : ∀ x ∈ t.data, InR x) (ht : InR t.typ) (hl : t.data.length ≤ 65536) (hb : bytE (tenFds name t) = .ok b) : tensorE b = .ok ⟨name, t⟩ := by
  unfold tensorE
  rw [byt_flds hb (ten_ok (by omega) hl)]
  simp only []
  by_cases h1 : t.typ = 1
  · have hc := (tchk_parts h).2.2
    rw [h1] at hc
    rw [ten_run1 h1 hd (allChk_mem hc)]
    exact tEnd_ok h hn rfl rfl (by simp [tData, h1])
  · rw [ten_run h1 hd he ht]
    exact tEnd_ok h hn rfl rfl (by
      by_cases h7 : t.typ = 7
      · simp [tData, h7]
      · simp [tData, h1, h7])
end Go.Proofs.Ytkcnpnnflbibiaa
