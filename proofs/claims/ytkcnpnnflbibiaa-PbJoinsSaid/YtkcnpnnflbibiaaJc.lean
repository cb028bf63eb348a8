/- Plain: what is written reads back: values, attributes, nodes, graphs. -/
import Derived.Test.YtkcnpnnflbibiaaJb
import Derived.Test.YtkcnpnnflbibiaaEe
import Derived.Test.YtkcnpnnflbibiaaEg
import Derived.Test.YtkcnpnnflbibiaaEc
import Derived.Test.YtkcnpnnflbibiaaEh
import Derived.Test.YtkcnpnnflbibiaaEd
import Derived.Test.YtkcnpnnflbibiaaDf
set_option linter.unusedVariables false
/- Plain: a value that is written reads back. -/
namespace Go.Proofs.Ytkcnpnnflbibiaa
open Go.RowKit

theorem dim_back {d : Int} {b : ByteArray} (h : InR d) (hb : dimB d = .ok b) : dimE b = .ok d := by
  unfold dimE
  rw [byt_flds hb (fun f hf => by simp only [List.mem_singleton] at hf; subst hf; exact fdOk_v 1 d (by omega) (by omega))]
  simp [runF, dStep, DAcc.none, i64_u64 h.1 h.2]
theorem dims_back (l : List Int) (h : ∀ d ∈ l, InR d) : ∀ (a : List Int) (m : List Fd), mapE dimB 1 l = .ok m → runF vdStep a m = .ok (a ++ l) ∧ ∀ f ∈ m, FdOk f := by
  induction l with
  | nil => intro a m hm; simp only [mapE, Except.ok.injEq] at hm; subst hm; exact ⟨by simp [runF], fun f hf => by simp at hf⟩
  | cons d l ih =>
    intro a m hm
    unfold mapE at hm
    cases hb : dimB d with
    | error e => rw [hb] at hm; simp at hm
    | ok b =>
      rw [hb] at hm
      simp only [] at hm
      cases hr : mapE dimB 1 l with
      | error e => rw [hr] at hm; simp at hm
      | ok m' =>
        rw [hr] at hm
        simp only [Except.ok.injEq] at hm
        subst hm
        obtain ⟨i1, i2⟩ := ih (fun x hx => h x (by simp [hx])) (a ++ [d]) m' hr
        refine ⟨?_, fun f hf => ?_⟩
        · simp only [runF, vdStep, if_true]
          rw [dim_back (h d (by simp)) hb]
          simp only []
          rw [i1]
          simp
        · rcases List.mem_cons.1 hf with rfl | hf
          · exact fdOk_t 1 b (by omega) (by omega) (by have := dimB_size d b hb; omega)
          · exact i2 f hf
theorem value_back {x : Vl} {b : ByteArray} (hv : valT x = true) (hd : ∀ d ∈ x.dims, InR d) (ht : InR x.typ) (hb : valueB x = .ok b) : valueE b = .ok x := by
  have hv' := hv
  simp only [valT, Bool.and_eq_true, beq_iff_eq, decide_eq_true_eq] at hv'
  obtain ⟨⟨v1, v2⟩, v3⟩ := hv'
  unfold valueB at hb
  cases hm : mapE dimB 1 x.dims with
  | error e => rw [hm] at hb; simp at hb
  | ok m =>
    rw [hm] at hb
    simp only [] at hb
    obtain ⟨r1, r2⟩ := dims_back x.dims hd [] m hm
    cases hdd : bytE m with
    | error e => rw [hdd] at hb; simp at hb
    | ok d =>
      rw [hdd] at hb
      simp only [valB1] at hb
      have dz := (bytE_size hdd).1
      cases h1 : bytE [⟨1, 0, IntKind.u64.wrap x.typ, ⟨#[]⟩⟩, ⟨2, 2, 0, d⟩] with
      | error e => rw [h1] at hb; simp at hb
      | ok t =>
        rw [h1] at hb
        simp only [] at hb
        have tz := (bytE_size h1).1
        cases h2 : bytE [⟨1, 2, 0, t⟩] with
        | error e => rw [h2] at hb; simp at hb
        | ok u =>
          rw [h2] at hb
          simp only [] at hb
          have uz := (bytE_size h2).1
          have e1 := byt_flds hb (fun f hf => by
            simp only [List.mem_cons, List.not_mem_nil, or_false] at hf
            rcases hf with rfl | rfl
            · exact fdOk_t 1 _ (by omega) (by omega) (by omega)
            · exact fdOk_t 2 _ (by omega) (by omega) (by omega))
          have e2 := byt_flds h2 (fun f hf => by
            simp only [List.mem_singleton] at hf
            subst hf
            exact fdOk_t 1 _ (by omega) (by omega) (by omega))
          have e3 := byt_flds h1 (fun f hf => by
            simp only [List.mem_cons, List.not_mem_nil, or_false] at hf
            rcases hf with rfl | rfl
            · exact fdOk_v 1 _ (by omega) (by omega)
            · exact fdOk_t 2 _ (by omega) (by omega) (by omega))
          have e4 := byt_flds hdd r2
          unfold valueE joinE
          rw [e1]
          simp [runF, jStep, nameStep, nil_app, e2, e3, typStep, i64_u64 ht.1 ht.2, e4, r1, vEnd, v1, v2]
          omega
end Go.Proofs.Ytkcnpnnflbibiaa

/- Plain: an attribute that is written reads back. -/
namespace Go.Proofs.Ytkcnpnnflbibiaa
open Go.RowKit

theorem step_int {d : Int} (h : InR d) (a : AAcc) : aStep a ⟨8, 0, IntKind.u64.wrap d, ⟨#[]⟩⟩ = .ok { a with ints := a.ints ++ [d] } := by
  unfold aStep
  simp [vars_one h 8, orErr, Except.map]
theorem run_ints (l : List Int) (h : ∀ d ∈ l, InR d) : ∀ (a : AAcc) (m : List Fd), runF aStep a (intFds l ++ m) = runF aStep { a with ints := a.ints ++ l } m := by
  induction l with
  | nil => intro a m; simp [intFds]
  | cons d l ih =>
    intro a m
    have e : intFds (d :: l) ++ m = ⟨8, 0, IntKind.u64.wrap d, ⟨#[]⟩⟩ :: (intFds l ++ m) := rfl
    rw [e]
    simp only [runF, step_int (h d (by simp)) a]
    rw [ih (fun x hx => h x (by simp [hx]))]
    simp
theorem told_kind {a : At} (h : bareB a = true) : a.kind = 1 ∨ a.kind = 2 ∨ a.kind = 3 ∨ a.kind = 4 ∨ a.kind = 7 := by
  unfold bareB at h
  by_cases h1 : a.kind = 1
  · exact .inl h1
  by_cases h2 : a.kind = 2
  · exact .inr (.inl h2)
  by_cases h3 : a.kind = 3
  · exact .inr (.inr (.inl h3))
  by_cases h4 : a.kind = 4
  · exact .inr (.inr (.inr (.inl h4)))
  by_cases h7 : a.kind = 7
  · exact .inr (.inr (.inr (.inr h7)))
  · simp [h1, h2, h3, h4, h7] at h
theorem only_of {a : At} (h : attrT a = true) : (a.kind = 1 → chk 1 a.f = true) ∧ (a.kind = 3 → a.s.size ≤ 100) ∧ (a.kind = 4 → tchk a.t = 0) ∧ (a.kind = 7 → a.ints.length ≤ 20) ∧ a.name.size ≤ 100 := by
  simp only [attrT, Bool.and_eq_true, decide_eq_true_eq] at h
  obtain ⟨h1, h2⟩ := h
  unfold bareB at h2
  refine ⟨fun k => ?_, fun k => ?_, fun k => ?_, fun k => ?_, h1⟩ <;> simp [k] at h2 <;> simp_all
end Go.Proofs.Ytkcnpnnflbibiaa

/- Plain: an attribute that is written reads back, kind by kind. -/
namespace Go.Proofs.Ytkcnpnnflbibiaa
open Go.RowKit

theorem noS_yes {s : ByteArray} (h : noS s = true) : s = ⟨#[]⟩ := by
  unfold noS at h
  exact text_nil (by simpa using h)
theorem noT_yes {t : Tn} (h : (!hasT t) = true) : t = tNone := by
  obtain ⟨h1, h2, h3⟩ := hasT_no (t := t) (by simpa using h)
  obtain ⟨a, b, c⟩ := t
  simp only at h1 h2 h3
  subst h1 h2 h3
  rfl
theorem noI_yes {l : List Int} (h : (l.length == 0) = true) : l = [] := by
  cases l with
  | nil => rfl
  | cons => simp at h
theorem form1 {a : At} (h : attrT a = true) (k : a.kind = 1) : a = ⟨a.name, 1, a.f, 0, ⟨#[]⟩, tNone, []⟩ ∧ chk 1 a.f = true ∧ a.name.size ≤ 100 := by
  simp only [attrT, bareB, k, if_true, Bool.and_eq_true, decide_eq_true_eq] at h
  obtain ⟨h0, ⟨⟨⟨h1, h2⟩, h3⟩, h4⟩, h5⟩ := h
  obtain ⟨n, kd, f, i, s, t, l⟩ := a
  simp only at *
  refine ⟨?_, h1, h0⟩
  rw [noS_yes h3, noT_yes h4, noI_yes h5, k]
  simp only [beq_iff_eq] at h2
  rw [h2]
theorem f32_wrap {x : Int} (h : chk 1 x = true) : flt (IntKind.u64.wrap x) = x := by
  obtain ⟨h0, h1⟩ := chk_bd h
  have e : IntKind.u64.wrap x = x := by
    simp [IntKind.wrap, IntKind.signed, IntKind.bits]
    omega
  rw [e]
  unfold flt
  rw [Int.emod_eq_of_lt h0 h1, if_pos h]
theorem fdOk_f (num x : Int) (h0 : 0 ≤ num) (h1 : num ≤ 1000) : FdOk ⟨num, 5, IntKind.u64.wrap x, ⟨#[]⟩⟩ := ⟨by dsimp only; omega, by dsimp only; omega, by dsimp only; omega, by dsimp only; omega, (u64w x).1, (u64w x).2, by exact Nat.zero_le _⟩
theorem attr_back1 {a : At} {b : ByteArray} (h : attrT a = true) (k : a.kind = 1) (hb : attrB a = .ok b) : attrE b = .ok a := by
  obtain ⟨e, h1, h0⟩ := form1 h k
  unfold attrB attrMid at hb
  rw [if_pos k] at hb
  simp only [List.cons_append, List.nil_append] at hb
  have hf := byt_flds hb (fun f hf => by
    simp only [List.mem_cons, List.not_mem_nil, or_false] at hf
    rcases hf with rfl | rfl | rfl
    · exact fdOk_t 1 _ (by omega) (by omega) (by omega)
    · exact fdOk_f 2 _ (by omega) (by omega)
    · exact fdOk_v 20 _ (by omega) (by omega))
  unfold attrE
  rw [hf]
  have hk : i64 (IntKind.u64.wrap 1) = 1 := i64_u64 (by omega) (by omega)
  rw [k]
  simp [runF, aStep, AAcc.none, f32_wrap h1, hk, aEnd, aTen, aKind, aLim, h0, tNone]
  rw [if_pos (show (⟨#[]⟩ : ByteArray).size ≤ 100 from Nat.zero_le _)]
  exact congrArg Except.ok e.symm
theorem form2 {a : At} (h : attrT a = true) (k : a.kind = 2) : a = ⟨a.name, 2, 0, a.i, ⟨#[]⟩, tNone, []⟩ ∧ a.name.size ≤ 100 := by
  obtain ⟨n, kd, f, i, s, t, l⟩ := a
  simp only at k
  subst k
  simp [attrT, bareB] at h
  obtain ⟨h0, ⟨⟨h1, h2⟩, h3⟩, h4⟩ := h
  refine ⟨?_, h0⟩
  simp only
  rw [noS_yes h2, noT_yes (t := t) (by simpa using h3), h4, h1]
theorem attr_back2 {a : At} {b : ByteArray} (h : attrT a = true) (k : a.kind = 2) (hi : InR a.i) (hb : attrB a = .ok b) : attrE b = .ok a := by
  obtain ⟨e, h0⟩ := form2 h k
  unfold attrB attrMid at hb
  rw [if_neg (by omega), if_pos k] at hb
  simp only [List.cons_append, List.nil_append] at hb
  have hf := byt_flds hb (fun f hf => by
    simp only [List.mem_cons, List.not_mem_nil, or_false] at hf
    rcases hf with rfl | rfl | rfl
    · exact fdOk_t 1 _ (by omega) (by omega) (by omega)
    · exact fdOk_v 3 _ (by omega) (by omega)
    · exact fdOk_v 20 _ (by omega) (by omega))
  unfold attrE
  rw [hf]
  have hk : i64 (IntKind.u64.wrap 2) = 2 := i64_u64 (by omega) (by omega)
  rw [k]
  simp [runF, aStep, AAcc.none, i64_u64 hi.1 hi.2, hk, aEnd, aTen, aKind, aLim, h0, tNone]
  rw [if_pos (show (⟨#[]⟩ : ByteArray).size ≤ 100 from Nat.zero_le _)]
  exact congrArg Except.ok e.symm
theorem form3 {a : At} (h : attrT a = true) (k : a.kind = 3) : a = ⟨a.name, 3, 0, 0, a.s, tNone, []⟩ ∧ a.name.size ≤ 100 ∧ a.s.size ≤ 100 := by
  obtain ⟨n, kd, f, i, s, t, l⟩ := a
  simp only at k
  subst k
  simp [attrT, bareB] at h
  obtain ⟨h0, ⟨⟨⟨h1, h2⟩, h3⟩, h4⟩, h5⟩ := h
  refine ⟨?_, h0, h3⟩
  simp only
  rw [noT_yes (t := t) (by simpa using h4), h5, h1, h2]
theorem attr_back3 {a : At} {b : ByteArray} (h : attrT a = true) (k : a.kind = 3) (hb : attrB a = .ok b) : attrE b = .ok a := by
  obtain ⟨e, h0, h3⟩ := form3 h k
  unfold attrB attrMid at hb
  rw [if_neg (by omega), if_neg (by omega), if_pos k] at hb
  simp only [List.cons_append, List.nil_append] at hb
  have hf := byt_flds hb (fun f hf => by
    simp only [List.mem_cons, List.not_mem_nil, or_false] at hf
    rcases hf with rfl | rfl | rfl
    · exact fdOk_t 1 _ (by omega) (by omega) (by omega)
    · exact fdOk_t 4 _ (by omega) (by omega) (by omega)
    · exact fdOk_v 20 _ (by omega) (by omega))
  unfold attrE
  rw [hf]
  have hk : i64 (IntKind.u64.wrap 3) = 3 := i64_u64 (by omega) (by omega)
  rw [k]
  simp [runF, aStep, AAcc.none, hk, aEnd, aTen, aKind, aLim, h0, h3, tNone]
  exact e.symm
theorem form7 {a : At} (h : attrT a = true) (k : a.kind = 7) : a = ⟨a.name, 7, 0, 0, ⟨#[]⟩, tNone, a.ints⟩ ∧ a.name.size ≤ 100 ∧ a.ints.length ≤ 20 := by
  obtain ⟨n, kd, f, i, s, t, l⟩ := a
  simp only at k
  subst k
  simp [attrT, bareB] at h
  obtain ⟨h0, ⟨⟨⟨h1, h2⟩, h3⟩, h4⟩, h5⟩ := h
  refine ⟨?_, h0, h5⟩
  simp only
  rw [noS_yes h3, noT_yes (t := t) (by simpa using h4), h1, h2]
theorem ints_ok (l : List Int) : ∀ f ∈ intFds l, FdOk f := by
  intro f hf
  simp only [intFds, List.mem_map] at hf
  obtain ⟨d, _, rfl⟩ := hf
  exact fdOk_v 8 d (by omega) (by omega)
theorem attr_back7 {a : At} {b : ByteArray} (h : attrT a = true) (k : a.kind = 7) (hi : ∀ d ∈ a.ints, InR d) (hb : attrB a = .ok b) : attrE b = .ok a := by
  obtain ⟨e, h0, h7⟩ := form7 h k
  unfold attrB attrMid at hb
  rw [if_neg (by omega), if_neg (by omega), if_neg (by omega), if_neg (by omega), if_pos k] at hb
  simp only [List.cons_append] at hb
  have hf := byt_flds hb (fun f hf => by
    simp only [List.mem_cons, List.mem_append, List.not_mem_nil, or_false] at hf
    rcases hf with rfl | hf | rfl
    · exact fdOk_t 1 _ (by omega) (by omega) (by omega)
    · exact ints_ok _ f hf
    · exact fdOk_v 20 _ (by omega) (by omega))
  unfold attrE
  rw [hf]
  have hk : i64 (IntKind.u64.wrap 7) = 7 := i64_u64 (by omega) (by omega)
  rw [k]
  simp only [runF]
  rw [show aStep .none ⟨1, 2, 0, a.name⟩ = .ok { AAcc.none with name := a.name } from by simp [aStep]]
  simp only []
  rw [run_ints a.ints hi]
  simp [runF, aStep, AAcc.none, hk, aEnd, aTen, aKind, aLim, h0, h7, tNone]
  rw [if_pos (show (⟨#[]⟩ : ByteArray).size ≤ 100 from Nat.zero_le _)]
  exact congrArg Except.ok e.symm
theorem form4 {a : At} (h : attrT a = true) (k : a.kind = 4) : a = ⟨a.name, 4, 0, 0, ⟨#[]⟩, a.t, []⟩ ∧ a.name.size ≤ 100 ∧ tchk a.t = 0 := by
  obtain ⟨n, kd, f, i, s, t, l⟩ := a
  simp only at k
  subst k
  simp [attrT, bareB] at h
  obtain ⟨h0, ⟨⟨⟨h1, h2⟩, h3⟩, h4⟩, h5⟩ := h
  refine ⟨?_, h0, h4⟩
  simp only
  rw [noS_yes h3, h5, h1, h2]
theorem attr_back4 {a : At} {b : ByteArray} (h : attrT a = true) (k : a.kind = 4) (hd : ∀ d ∈ a.t.dims, InR d) (he : ∀ x ∈ a.t.data, InR x) (ht : InR a.t.typ) (hl : a.t.data.length ≤ 65536) (hb : attrB a = .ok b) : attrE b = .ok a := by
  obtain ⟨e, h0, h4⟩ := form4 h k
  unfold attrB attrMid at hb
  rw [if_neg (by omega), if_neg (by omega), if_neg (by omega), if_pos k] at hb
  cases hm : bytE (tenFds ⟨#[]⟩ a.t) with
  | error e => rw [hm] at hb; simp at hb
  | ok m =>
    rw [hm] at hb
    simp only [List.cons_append, List.nil_append] at hb
    have mz := (bytE_size hm).1
    have tb := tensor_back h4 (show (⟨#[]⟩ : ByteArray).size ≤ 100 from Nat.zero_le _) hd he ht hl hm
    have hf := byt_flds hb (fun f hf => by
      simp only [List.mem_cons, List.not_mem_nil, or_false] at hf
      rcases hf with rfl | rfl | rfl
      · exact fdOk_t 1 _ (by omega) (by omega) (by omega)
      · exact fdOk_t 5 _ (by omega) (by omega) (by omega)
      · exact fdOk_v 20 _ (by omega) (by omega))
    unfold attrE
    rw [hf]
    have hk : i64 (IntKind.u64.wrap 4) = 4 := i64_u64 (by omega) (by omega)
    rw [k]
    simp [runF, aStep, AAcc.none, hk, aEnd, aTen, aKind, aLim, h0, nil_app, tb]
    rw [if_pos (show (⟨#[]⟩ : ByteArray).size ≤ 100 from Nat.zero_le _)]
    exact congrArg Except.ok e.symm
/-- Every number of a tensor, of an attribute, is of int64; no data too long. -/
structure TnIn (t : Tn) : Prop where
  typ : InR t.typ
  dims : ∀ d ∈ t.dims, InR d
  data : ∀ x ∈ t.data, InR x
structure AtIn (a : At) : Prop where
  i : InR a.i
  t : TnIn a.t
  ints : ∀ d ∈ a.ints, InR d
theorem attr_back {a : At} {b : ByteArray} (h : attrT a = true) (hi : AtIn a) (hl : tchk a.t = 0 → a.t.data.length ≤ 65536) (hb : attrB a = .ok b) : attrE b = .ok a := by
  have hk := told_kind (a := a) (by simp only [attrT, Bool.and_eq_true] at h; exact h.2)
  rcases hk with k | k | k | k | k
  · exact attr_back1 h k hb
  · exact attr_back2 h k hi.i hb
  · exact attr_back3 h k hb
  · exact attr_back4 h k hi.t.dims hi.t.data hi.t.typ (hl (only_of h |>.2.2.1 k)) hb
  · exact attr_back7 h k hi.ints hb
end Go.Proofs.Ytkcnpnnflbibiaa

/- Plain: lists of parts that are written read back; nodes. -/
namespace Go.Proofs.Ytkcnpnnflbibiaa
open Go.RowKit

theorem mapE_run {α β : Type} (g : α → Except Int ByteArray) (num : Int) (step : β → Fd → Except Int β) (add : β → α → β) : ∀ (l : List α) (m : List Fd), (∀ x ∈ l, ∀ a b, g x = .ok b → step a ⟨num, 2, 0, b⟩ = .ok (add a x)) → mapE g num l = .ok m →
    ∀ (a : β) (rest : List Fd), runF step a (m ++ rest) = runF step (l.foldl add a) rest := by
  intro l
  induction l with
  | nil => intro m _ hm a rest; simp only [mapE, Except.ok.injEq] at hm; subst hm; rfl
  | cons x l ih =>
    intro m hs hm a rest
    unfold mapE at hm
    cases hb : g x with
    | error e => rw [hb] at hm; simp at hm
    | ok b =>
      rw [hb] at hm
      simp only [] at hm
      cases hr : mapE g num l with
      | error e => rw [hr] at hm; simp at hm
      | ok m' =>
        rw [hr] at hm
        simp only [Except.ok.injEq] at hm
        subst hm
        simp only [List.cons_append, runF, hs x (by simp) a b hb, List.foldl_cons]
        exact ih m' (fun y hy => hs y (by simp [hy])) hr _ rest
theorem mapE_fdOk {α : Type} (g : α → Except Int ByteArray) (num : Int) (h0 : 0 ≤ num) (h1 : num ≤ 1000) (hz : ∀ x b, g x = .ok b → b.size ≤ 16777216) : ∀ (l : List α) (m : List Fd), mapE g num l = .ok m → ∀ f ∈ m, FdOk f := by
  intro l
  induction l with
  | nil => intro m hm f hf; simp only [mapE, Except.ok.injEq] at hm; subst hm; simp at hf
  | cons x l ih =>
    intro m hm f hf
    unfold mapE at hm
    cases hb : g x with
    | error e => rw [hb] at hm; simp at hm
    | ok b =>
      rw [hb] at hm
      simp only [] at hm
      cases hr : mapE g num l with
      | error e => rw [hr] at hm; simp at hm
      | ok m' =>
        rw [hr] at hm
        simp only [Except.ok.injEq] at hm
        subst hm
        rcases List.mem_cons.1 hf with rfl | hf
        · exact fdOk_t num b h0 h1 (by have := hz x b hb; omega)
        · exact ih m' hr f hf
theorem run_strs (l : List ByteArray) : ∀ (a : NAcc) (m : List Fd), runF nStep a (strFds l ++ m) = runF nStep { a with ins := a.ins ++ l } m := by
  induction l with
  | nil => intro a m; simp [strFds]
  | cons s l ih =>
    intro a m
    have e : strFds (s :: l) ++ m = ⟨1, 2, 0, s⟩ :: (strFds l ++ m) := rfl
    rw [e]
    simp only [runF, nStep, if_true]
    rw [ih]
    simp
theorem fold_attrs (l : List At) (a : NAcc) : l.foldl (fun a x => { a with attrs := a.attrs ++ [x] }) a = { a with attrs := a.attrs ++ l } := by
  induction l generalizing a with
  | nil => simp
  | cons x l ih => rw [List.foldl_cons, ih]; simp
structure NdIn (n : Nd) : Prop where
  attrs : ∀ a ∈ n.attrs, AtIn a
  len : ∀ a ∈ n.attrs, tchk a.t = 0 → a.t.data.length ≤ 65536
theorem node_back {n : Nd} {b : ByteArray} (h : nodeT n = true) (hi : NdIn n) (hb : nodeB n = .ok b) : nodeE b = .ok n := by
  simp only [nodeT, Bool.and_eq_true, List.all_eq_true] at h
  obtain ⟨h1, h2⟩ := h
  have hs := h1
  simp only [shortB, Bool.and_eq_true, decide_eq_true_eq] at hs
  obtain ⟨⟨⟨⟨⟨s1, s2⟩, s3⟩, s4⟩, s5⟩, s6⟩ := hs
  unfold nodeB at hb
  cases hm : mapE attrB 5 n.attrs with
  | error e => rw [hm] at hb; simp at hb
  | ok m =>
    rw [hm] at hb
    simp only [] at hb
    have hf := byt_flds hb (fun f hf => by
      rcases List.mem_append.1 hf with hf | hf
      · simp only [nodeHead, strFds, List.mem_append, List.mem_map, List.mem_singleton] at hf
        rcases hf with ((⟨s, hs, rfl⟩ | rfl) | rfl) | rfl
        · exact fdOk_t 1 _ (by omega) (by omega) (by have := s4 s hs; omega)
        · exact fdOk_t 2 _ (by omega) (by omega) (by omega)
        · exact fdOk_t 3 _ (by omega) (by omega) (by omega)
        · exact fdOk_t 4 _ (by omega) (by omega) (by omega)
      · exact mapE_fdOk attrB 5 (by omega) (by omega) attrB_size _ _ hm f hf)
    unfold nodeE
    rw [hf]
    simp only []
    have e : nodeHead n ++ m = strFds n.ins ++ (⟨2, 2, 0, n.out⟩ :: ⟨3, 2, 0, n.name⟩ :: ⟨4, 2, 0, n.op⟩ :: (m ++ [])) := by simp [nodeHead]
    rw [e, run_strs]
    simp only [runF]
    rw [show ∀ a : NAcc, nStep a ⟨2, 2, 0, n.out⟩ = .ok { a with outs := a.outs ++ [n.out] } from fun a => by simp [nStep]]
    simp only []
    rw [show ∀ a : NAcc, nStep a ⟨3, 2, 0, n.name⟩ = .ok { a with name := n.name } from fun a => by simp [nStep]]
    simp only []
    rw [show ∀ a : NAcc, nStep a ⟨4, 2, 0, n.op⟩ = .ok { a with op := n.op } from fun a => by simp [nStep]]
    simp only []
    rw [mapE_run attrB 5 nStep (fun a x => { a with attrs := a.attrs ++ [x] }) n.attrs m (fun x hx a b hxb => by
      simp [nStep, attr_back (h2 x hx) (hi.attrs x hx) (hi.len x hx) hxb]) hm, fold_attrs]
    simp [runF, nEnd, NAcc.none, h1]
end Go.Proofs.Ytkcnpnnflbibiaa

/- Plain: a graph that is written reads back; two models one behind the other. -/
namespace Go.Proofs.Ytkcnpnnflbibiaa
open Go.RowKit

structure VlIn (v : Vl) : Prop where
  typ : InR v.typ
  dims : ∀ d ∈ v.dims, InR d
/-- Every number of a graph is of int64. -/
structure GrIn (g : Gr) : Prop where
  nodes : ∀ n ∈ g.nodes, ∀ a ∈ n.attrs, AtIn a
  ins : ∀ v ∈ g.ins, VlIn v
  outs : ∀ v ∈ g.outs, VlIn v
  inits : ∀ t ∈ g.inits, TnIn t.t
/-- Two graphs put together. -/
def addG (a g : Gr) : Gr := ⟨g.name, a.nodes ++ g.nodes, a.ins ++ g.ins, a.outs ++ g.outs, a.inits ++ g.inits⟩
theorem fold_nodes (l : List Nd) (a : Gr) : l.foldl (fun a x => { a with nodes := a.nodes ++ [x] }) a = { a with nodes := a.nodes ++ l } := by
  induction l generalizing a with
  | nil => simp
  | cons x l ih => rw [List.foldl_cons, ih]; simp
theorem fold_inits (l : List Nm) (a : Gr) : l.foldl (fun a x => { a with inits := a.inits ++ [x] }) a = { a with inits := a.inits ++ l } := by
  induction l generalizing a with
  | nil => simp
  | cons x l ih => rw [List.foldl_cons, ih]; simp
theorem fold_ins (l : List Vl) (a : Gr) : l.foldl (fun a x => { a with ins := a.ins ++ [x] }) a = { a with ins := a.ins ++ l } := by
  induction l generalizing a with
  | nil => simp
  | cons x l ih => rw [List.foldl_cons, ih]; simp
theorem fold_outs (l : List Vl) (a : Gr) : l.foldl (fun a x => { a with outs := a.outs ++ [x] }) a = { a with outs := a.outs ++ l } := by
  induction l generalizing a with
  | nil => simp
  | cons x l ih => rw [List.foldl_cons, ih]; simp
theorem init_back {t : Nm} {b : ByteArray} (h : initT t = true) (hi : TnIn t.t) (hb : initB t = .ok b) : tensorE b = .ok t := by
  simp only [initT, Bool.and_eq_true, beq_iff_eq, decide_eq_true_eq] at h
  exact tensor_back h.1 h.2 hi.dims hi.data hi.typ (tchk_sz h.1).2 hb
theorem gfds_run {g : Gr} (ht : toldB g = true) (hi : GrIn g) {l : List Fd} (hl : graphFds g = .ok l) : (∀ f ∈ l, FdOk f) ∧ ∀ (a : Gr) (rest : List Fd), runF gStep a (l ++ rest) = runF gStep (addG a g) rest := by
  simp only [toldB, Bool.and_eq_true, List.all_eq_true] at ht
  obtain ⟨⟨⟨⟨t1, t2⟩, t3⟩, t4⟩, t5⟩ := ht
  have tn : g.name.size ≤ 100 := by
    simp only [fewG, fewB, Bool.and_eq_true, decide_eq_true_eq] at t1
    omega
  unfold graphFds at hl
  cases h1 : mapE nodeB 1 g.nodes with
  | error e => rw [h1] at hl; simp at hl
  | ok m1 =>
  rw [h1] at hl
  simp only [] at hl
  cases h2 : mapE initB 5 g.inits with
  | error e => rw [h2] at hl; simp at hl
  | ok m2 =>
  rw [h2] at hl
  simp only [] at hl
  cases h3 : mapE valueB 11 g.ins with
  | error e => rw [h3] at hl; simp at hl
  | ok m3 =>
  rw [h3] at hl
  simp only [] at hl
  cases h4 : mapE valueB 12 g.outs with
  | error e => rw [h4] at hl; simp at hl
  | ok m4 =>
  rw [h4] at hl
  simp only [Except.ok.injEq] at hl
  subst hl
  refine ⟨fun f hf => ?_, fun a rest => ?_⟩
  · simp only [List.mem_append, List.mem_singleton] at hf
    rcases hf with (((hf | rfl) | hf) | hf) | hf
    · exact mapE_fdOk nodeB 1 (by omega) (by omega) nodeB_size _ _ h1 f hf
    · exact fdOk_t 2 _ (by omega) (by omega) (by omega)
    · exact mapE_fdOk initB 5 (by omega) (by omega) initB_size _ _ h2 f hf
    · exact mapE_fdOk valueB 11 (by omega) (by omega) valueB_size _ _ h3 f hf
    · exact mapE_fdOk valueB 12 (by omega) (by omega) valueB_size _ _ h4 f hf
  · have e : m1 ++ [⟨2, 2, 0, g.name⟩] ++ m2 ++ m3 ++ m4 ++ rest = m1 ++ (⟨2, 2, 0, g.name⟩ :: (m2 ++ (m3 ++ (m4 ++ rest)))) := by simp
    rw [e, mapE_run nodeB 1 gStep (fun a x => { a with nodes := a.nodes ++ [x] }) g.nodes m1 (fun x hx a b hxb => by
      have hb := node_back (t2 x hx) ⟨hi.nodes x hx, fun a _ h => (tchk_sz h).2⟩ hxb
      simp [gStep, hb]) h1, fold_nodes]
    simp only [runF]
    rw [show ∀ a : Gr, gStep a ⟨2, 2, 0, g.name⟩ = .ok { a with name := g.name } from fun a => by simp [gStep]]
    simp only []
    rw [mapE_run initB 5 gStep (fun a x => { a with inits := a.inits ++ [x] }) g.inits m2 (fun x hx a b hxb => by
      have hb := init_back (t5 x hx) (hi.inits x hx) hxb
      simp [gStep, hb]) h2, fold_inits]
    rw [mapE_run valueB 11 gStep (fun a x => { a with ins := a.ins ++ [x] }) g.ins m3 (fun x hx a b hxb => by
      have hb := value_back (t3 x hx) (hi.ins x hx).dims (hi.ins x hx).typ hxb
      simp [gStep, hb]) h3, fold_ins]
    rw [mapE_run valueB 12 gStep (fun a x => { a with outs := a.outs ++ [x] }) g.outs m4 (fun x hx a b hxb => by
      have hb := value_back (t4 x hx) (hi.outs x hx).dims (hi.outs x hx).typ hxb
      simp [gStep, hb]) h4, fold_outs]
    rfl
/-- The parts of an encoded graph. -/
structure Enc (g : Gr) (s : ByteArray) (l : List Fd) (b o : ByteArray) : Prop where
  told : toldB g = true
  fds : graphFds g = .ok l
  bytes : bytE l = .ok b
  fl : fldsE s = .ok [⟨1, 0, 8, ⟨#[]⟩⟩, ⟨7, 2, 0, b⟩, ⟨8, 2, 0, o⟩]
theorem enc_parts {g : Gr} {s : ByteArray} (h : encodeE g = .ok s) : ∃ l b o, Enc g s l b o := by
  unfold encodeE at h
  split at h
  · cases h
  · next ht =>
    cases hl : graphFds g with
    | error e => rw [hl] at h; simp at h
    | ok l =>
      rw [hl] at h
      simp only [] at h
      cases hb : bytE l with
      | error e => rw [hb] at h; simp at h
      | ok b =>
        rw [hb] at h
        simp only [modelB] at h
        cases ho : bytE [⟨2, 0, 13, ⟨#[]⟩⟩] with
        | error e => rw [ho] at h; simp at h
        | ok o =>
          rw [ho] at h
          simp only [] at h
          have bz := (bytE_size hb).1
          have oz := (bytE_size ho).1
          refine ⟨l, b, o, by simpa using ht, hl, hb, byt_flds h (fun f hf => ?_)⟩
          simp only [List.mem_cons, List.not_mem_nil, or_false] at hf
          rcases hf with rfl | rfl | rfl
          · exact ⟨by dsimp only; omega, by dsimp only; omega, by dsimp only; omega, by dsimp only; omega, by dsimp only; omega, by dsimp only; unfold B64; omega, by exact Nat.zero_le _⟩
          · exact fdOk_t 7 _ (by omega) (by omega) (by omega)
          · exact fdOk_t 8 _ (by omega) (by omega) (by omega)
theorem join7 (a b o : ByteArray) (h : Bool) (rest : List Fd) : runF (jStep noStep 7) (a, h, ()) (⟨1, 0, 8, ⟨#[]⟩⟩ :: ⟨7, 2, 0, b⟩ :: ⟨8, 2, 0, o⟩ :: rest) = runF (jStep noStep 7) (a ++ b, true, ()) rest := by
  simp [runF, jStep, noStep]
theorem addG_none (g : Gr) : addG gNone g = g := by simp [addG, gNone]
/-- What is told reads back. -/
theorem decode_back {g : Gr} (hi : GrIn g) {s : ByteArray} (h : encodeE g = .ok s) : decodeE s = .ok g := by
  obtain ⟨l, b, o, q⟩ := enc_parts h
  have hj : joinE noStep 7 () s = .ok (b, true, ()) := joinE_all q.fl (by rw [join7, nil_app]; rfl)
  unfold decodeE
  rw [hj]
  simp only [Bool.true_eq_false, if_false]
  obtain ⟨r1, r2⟩ := gfds_run q.told hi q.fds
  unfold graphE
  rw [byt_flds q.bytes r1]
  simp only []
  have := r2 gNone []
  rw [List.append_nil, addG_none] at this
  rw [this]
  simp only [runF, gEnd]
  have ht := q.told
  simp only [toldB, Bool.and_eq_true] at ht
  rw [if_pos ht.1.1.1.1]
theorem flds_app {s t : ByteArray} {l m : List Fd} (h1 : fldsE s = .ok l) (h2 : fldsE t = .ok m) (hz : s.size + t.size ≤ 16777216) : fldsE (s ++ t) = .ok (l ++ m) := by
  unfold fldsE
  rw [size_app, if_neg (by omega), fields_joined (fldsE_ok h1).1 (fldsE_ok h2).1]
/-- Two that are told, one behind the other. -/
theorem decode_joined {g h : Gr} (hg : GrIn g) (hh : GrIn h) {s t : ByteArray} (h1 : encodeE g = .ok s) (h2 : encodeE h = .ok t) (hz : s.size + t.size ≤ 16777216) : decodeE (s ++ t) = gEnd (addG g h) := by
  obtain ⟨l, b, o, q⟩ := enc_parts h1
  obtain ⟨l', b', o', q'⟩ := enc_parts h2
  have hj : joinE noStep 7 () (s ++ t) = .ok (b ++ b', true, ()) := joinE_all (flds_app q.fl q'.fl hz) (by
    simp only [List.cons_append, List.nil_append]
    rw [join7, nil_app, join7]; rfl)
  obtain ⟨r1, r2⟩ := gfds_run q.told hg q.fds
  obtain ⟨r1', r2'⟩ := gfds_run q'.told hh q'.fds
  have hbz : b.size ≤ s.size := by have := (fldsE_ok q.fl).2.2.2.2; simp only [wt] at this; omega
  have hbz' : b'.size ≤ t.size := by have := (fldsE_ok q'.fl).2.2.2.2; simp only [wt] at this; omega
  unfold decodeE
  rw [hj]
  simp only [Bool.true_eq_false, if_false]
  unfold graphE
  rw [flds_app (byt_flds q.bytes r1) (byt_flds q'.bytes r1') (by omega)]
  simp only []
  rw [r2]
  have := r2' (addG gNone g) []
  rw [List.append_nil] at this
  rw [this, addG_none]
  rfl
end Go.Proofs.Ytkcnpnnflbibiaa
