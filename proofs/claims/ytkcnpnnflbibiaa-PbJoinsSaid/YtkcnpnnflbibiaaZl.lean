/- The walks: whether a tensor may be. What the reader of a tensor gathers: plain; and its four lists in memory. The walks: a tensor read: what its loop keeps. -/
import Derived.Test.YtkcnpnnflbibiaaZh
import Derived.Test.YtkcnpnnflbibiaaZi
import Derived.Test.YtkcnpnnflbibiaaZk
set_option linter.unusedVariables false
/- The walks: whether a tensor may be. -/
namespace Go.Proofs.Ytkcnpnnflbibiaa
open Go.RowKit

theorem slc_ints {w : World} {Z : Nat → Prop} {A : Option Addr} {n : Nat} {l : List Int} {B : Nat} (h : Slc repInt w Z A n l) (hB : ∀ k, Z k → k < B) : Ints w B A n l := by
  refine ⟨h.len, h.small, fun hn => ?_⟩
  obtain ⟨b, off, e, hb, hc⟩ := h.at_ hn
  refine ⟨b, off, e, hB b hb, fun j hj => ?_⟩
  obtain ⟨cs, hr, hi⟩ := hc j (ix l j) (ix_get? l j (by rw [h.len]; exact hj))
  have h1 := hi 0 (by decide)
  have h2 : cs = [.int .i64 (ix l j)] := hr
  rw [h2] at h1
  simpa [repInt] using h1

theorem bad_any (g : Nat) (typ x : Int) (w : World) (hg : w.cell? ⟨g, 0, none⟩ = some (.int .i64 typ)) : Calls Try.prog 47 #[.int .i64 x, .pointer (some ⟨g, 0, none⟩)] w fun e w' => e = .returned (.bool (!chk typ x)) ∧ w = w' := by
  go_enter Try.func47, Try.ntmps47
  go_wp2_with fail
  refine (chk_any typ x w).mono ?_
  rintro e w1 ⟨rfl, rfl⟩
  go_wp2
  go_ret
  exact ⟨rfl, rfl⟩
def AllChk (typ : Int) (l : List Int) : Prop := ∀ j, j < l.length → chk typ (ix l j) = true
instance (typ : Int) (l : List Int) : Decidable (AllChk typ l) := inferInstanceAs (Decidable (∀ j, j < l.length → _))
def Idx64 (typ : Int) (l : List Int) (w : World) (e : Ending) (w' : World) : Prop := ∃ i : Int, e = .returned (.int .i64 i) ∧ ((0 ≤ i ∧ ¬ AllChk typ l) ∨ (i < 0 ∧ AllChk typ l)) ∧ w = w'

set_option maxHeartbeats 800000 in
theorem idx64_any (w : World) (B g : Nat) (typ : Int) (A : Option Addr) (n c : Nat) (l : List Int) (h : Ints w B A n l) (hg : w.cell? ⟨g, 0, none⟩ = some (.int .i64 typ)) :
    Calls Try.prog 69 #[.slice A n c, .func (.func 47) #[] #[.pointer (some ⟨g, 0, none⟩)]] w (Idx64 typ l w) := by
  have hm : n ≤ 9223372036854775807 := h.small
  have Hl := Lib.hid h.len
  have Hg := Lib.hid hg
  clear hg
  go_enter Try.func69, Try.ntmps69
  go_wp2_with fail
  go_loop [5, 8] (fun _ i => ∃ k : Nat, k ≤ n ∧ i = .int .i64 k ∧ ∀ j, j < k → chk typ (ix l j) = true) (fun _ i => n - (intOf i).toNat)
  case atStart => exact ⟨0, Nat.zero_le _, rfl, fun j hj => absurd hj (by omega)⟩
  case round =>
    obtain ⟨k, hk, rfl, hall⟩ := hrel
    have Hall := Lib.hid hall
    clear hall
    by_cases hlt : k < n
    · obtain ⟨b, off, rfl, hb, hc⟩ := h.get hlt
      have HB := Lib.hid (bad_any g typ (ix l k) w Hg.out)
      go_wp2_with fail
      refine HB.out.mono ?_
      rintro e w' ⟨rfl, rfl⟩
      cases hx : chk typ (ix l k) with
      | false =>
        have Hx := Lib.hid hx
        clear hx
        go_wp2
        go_ret
        exact ⟨_, rfl, .inl ⟨by omega, fun hp => by have := hp k (by rw [Hl.out]; exact hlt); rw [Hx.out] at this; cases this⟩, rfl⟩
      | true =>
        have Hx := Lib.hid hx
        clear hx
        go_wp2
        go_round
        case rel => exact ⟨k + 1, by omega, by go_num, fun j hj => by
          by_cases e : j = k
          · subst e; exact Hx.out
          · exact Hall.out j (by omega)⟩
        case measure => simp [intOf]; omega
    · go_wp2
      go_ret
      exact ⟨_, rfl, .inr ⟨by omega, fun j hj => Hall.out j (by rw [Hl.out] at hj; omega)⟩, rfl⟩
theorem has64_any (w : World) (B g : Nat) (typ : Int) (A : Option Addr) (n c : Nat) (l : List Int) (h : Ints w B A n l) (hg : w.cell? ⟨g, 0, none⟩ = some (.int .i64 typ)) :
    Calls Try.prog 46 #[.slice A n c, .func (.func 47) #[] #[.pointer (some ⟨g, 0, none⟩)]] w fun e w' => e = .returned (.bool (!decide (AllChk typ l))) ∧ w = w' := by
  have HI := Lib.hid (idx64_any w B g typ A n c l h hg)
  go_enter Try.func46, Try.ntmps46
  go_wp2_with fail
  refine HI.out.mono ?_
  rintro e w' ⟨i, rfl, hi, rfl⟩
  have Hi := Lib.hid hi
  clear hi
  go_wp2
  go_ret
  refine ⟨boo_ret ?_, rfl⟩
  rcases Hi.out with ⟨h1, h2⟩ | ⟨h1, h2⟩
  · simp [h1, h2]
  · simp [h2]; omega

/-- A tensor's error. -/
def tchk (t : Tn) : Int := if typd t.typ = false then 5 else if errC t.dims ≠ 0 then errC t.dims else if (t.data.length : Int) ≠ prod t.dims ∨ ¬ AllChk t.typ t.data then 4 else 0

set_option maxRecDepth 100000 in
set_option maxHeartbeats 1600000 in
theorem check_any (t : Tn) (w : World) (B : Nat) (A A' : Option Addr) (n c n' c' : Nat) (hd : Ints w B A n t.dims) (he : Ints w B A' n' t.data) (hB : B ≤ w.heap.size) :
    Calls Try.prog 15 #[.agg #[.int .i64 t.typ, .slice A n c, .slice A' n' c']] w fun e w' => e = .returned (.int .i64 (tchk t)) ∧ Below w.heap.size w w' := by
  obtain ⟨typ, dims, data⟩ := t
  dsimp only at hd he
  have hd1 := hd.alloc hB (.cells #[.int .i64 typ, .slice A n c, .slice A' n' c'] 47)
  have he1 := he.alloc hB (.cells #[.int .i64 typ, .slice A n c, .slice A' n' c'] 47)
  have hb1 : Below w.heap.size w (w.alloc (.cells #[.int .i64 typ, .slice A n c, .slice A' n' c'] 47)) := (Below.refl _ _).alloc (Nat.le_refl _) _
  have hm : n' ≤ 9223372036854775807 := he.small
  have hlen : data.length = n' := he.len
  have Hlen := Lib.hid hlen
  have HT := Lib.hid (fun w => typed_any typ w)
  have HC := Lib.hid (fun x err hx => count_any _ B A n c dims hd1 x err hx)
  have HH := Lib.hid (has64_any _ B w.heap.size typ A' n' c' data he1 (cell_of_row _ _ 0 _ 47 (0, 0) (heap_alloc_new w _)))
  have Hb := Lib.hid hb1
  clear hd he hd1 he1 hb1 hlen
  cases ht : typd typ with
  | false =>
    have hr : Hid (tchk ⟨typ, dims, data⟩ = 5) := Lib.hid (by simp [tchk, ht])
    go_enter Try.func15, Try.ntmps15
    go_wp2_with fail
    refine (HT.out _).mono ?_
    rintro e w1 ⟨rfl, rfl⟩
    go_wp2
    go_ret
    exact ⟨by rw [hr.out]; rfl, Hb.out⟩
  | true =>
    have hcx : CountIs dims (if errC dims = 0 then prod dims else 0) (errC dims) := ⟨rfl, rfl⟩
    have C := HC.out _ _ hcx
    by_cases h0 : errC dims = 0
    · rw [if_pos h0, h0] at C
      have HC2 := Lib.hid C
      clear C HC hcx
      by_cases hl : (n' : Int) = prod dims
      · have hle : ((n' : Int) != prod dims) = false := by simpa using hl
        have Hl2 := Lib.hid hl
        clear hl
        by_cases ha : AllChk typ data
        · have hr : Hid (tchk ⟨typ, dims, data⟩ = 0) := Lib.hid (by simp [tchk, ht, h0, Hlen.out, Hl2.out, ha])
          have hda : decide (AllChk typ data) = true := by simpa using ha
          rw [hda] at HH
          clear h0 ha hda
          go_enter Try.func15, Try.ntmps15
          go_wp2_with fail
          refine (HT.out _).mono ?_
          rintro e w1 ⟨rfl, rfl⟩
          go_wp2_with fail
          refine HC2.out.mono ?_
          rintro e w1 ⟨rfl, rfl⟩
          go_wp2_with fail
          refine HH.out.mono ?_
          rintro e w1 ⟨rfl, rfl⟩
          go_wp2
          go_ret
          exact ⟨by rw [hr.out]; rfl, Hb.out⟩
        · have hr : Hid (tchk ⟨typ, dims, data⟩ = 4) := Lib.hid (by simp [tchk, ht, h0, ha])
          have hda : decide (AllChk typ data) = false := by simpa using ha
          rw [hda] at HH
          clear h0 ha hda
          go_enter Try.func15, Try.ntmps15
          go_wp2_with fail
          refine (HT.out _).mono ?_
          rintro e w1 ⟨rfl, rfl⟩
          go_wp2_with fail
          refine HC2.out.mono ?_
          rintro e w1 ⟨rfl, rfl⟩
          go_wp2_with fail
          refine HH.out.mono ?_
          rintro e w1 ⟨rfl, rfl⟩
          go_wp2
          go_ret
          exact ⟨by rw [hr.out]; rfl, Hb.out⟩
      · have hle : ((n' : Int) != prod dims) = true := by simpa using hl
        have hr : Hid (tchk ⟨typ, dims, data⟩ = 4) := Lib.hid (by simp [tchk, ht, h0, Hlen.out, hl])
        clear h0
        go_enter Try.func15, Try.ntmps15
        go_wp2_with fail
        refine (HT.out _).mono ?_
        rintro e w1 ⟨rfl, rfl⟩
        go_wp2_with fail
        refine HC2.out.mono ?_
        rintro e w1 ⟨rfl, rfl⟩
        go_wp2
        go_ret
        exact ⟨by rw [hr.out]; rfl, Hb.out⟩
    · have hr : Hid (tchk ⟨typ, dims, data⟩ = errC dims) := Lib.hid (by simp [tchk, ht, h0])
      have he0 : (errC dims != 0) = true := by simpa using h0
      rw [if_neg h0] at C
      have HC2 := Lib.hid C
      clear C HC hcx
      go_enter Try.func15, Try.ntmps15
      go_wp2_with fail
      refine (HT.out _).mono ?_
      rintro e w1 ⟨rfl, rfl⟩
      go_wp2_with fail
      refine HC2.out.mono ?_
      rintro e w1 ⟨rfl, rfl⟩
      go_wp2
      go_ret
      exact ⟨by rw [hr.out]; rfl, Hb.out⟩
end Go.Proofs.Ytkcnpnnflbibiaa

/- What the reader of a tensor gathers: plain; and its four lists in memory. -/
namespace Go.Proofs.Ytkcnpnnflbibiaa
open Go.RowKit

/-- How many bytes fields weigh at least. -/
def wt : List Fd → Nat
  | [] => 0
  | f :: l => f.b.size + 1 + wt l
theorem wt_snoc (l : List Fd) (f : Fd) : wt (l ++ [f]) = wt l + (f.b.size + 1) := by
  induction l with
  | nil => simp [wt]
  | cons g l ih => simp [wt, ih]; omega
theorem wt_take (l : List Fd) (k : Nat) (f : Fd) (h : l[k]? = some f) : wt (l.take (k + 1)) = wt (l.take k) + (f.b.size + 1) := by
  rw [List.take_add_one, h]; exact wt_snoc _ _
theorem wt_mono (l : List Fd) (k : Nat) : wt (l.take k) ≤ wt l := by
  induction l generalizing k with
  | nil => simp
  | cons f l ih =>
    cases k with
    | zero => exact Nat.zero_le _
    | succ k => have := ih k; simp [wt]; omega
theorem form_ge {f : Fd} (h : GoodF f) : f.b.size + 1 ≤ (formB f).size := by
  have h1 : 1 ≤ (headB f).size := by
    unfold headB
    rw [strOfNums_size]
    exact (vencF_len 9 _).1
  have h2 : f.b.size ≤ (contB f).size := by
    rcases h.2.2 with ⟨_, e⟩ | ⟨_, e⟩ | ⟨_, e, _⟩ | ⟨e, _⟩
    · rw [e]; exact Nat.zero_le _
    · rw [e]; exact Nat.zero_le _
    · rw [e]; exact Nat.zero_le _
    · have e2 : contB f = strOfNums (venc f.b.size) ++ f.b := by simp [contB, e]
      rw [e2, size_app]; omega
  unfold formB
  rw [size_app]; omega
theorem wt_text (l : List Fd) (h : AllGood l) : wt l ≤ (textB l).size := by
  induction l with
  | nil => exact Nat.zero_le _
  | cons f l ih =>
    have h1 := form_ge (h f (by simp))
    have h2 := ih (fun g hg => h g (by simp [hg]))
    simp only [wt, textB, size_app]; omega
/-- What is known of a message's fields. -/
theorem fldsE_ok {s : ByteArray} {l : List Fd} (h : fldsE s = .ok l) : fieldsS s 0 = some l ∧ s.size ≤ 16777216 ∧ AllGood l ∧ (∀ f ∈ l, FdOk f) ∧ wt l ≤ s.size := by
  unfold fldsE at h
  split at h
  · cases h
  · rename_i hs
    split at h
    · cases h
    · rename_i l' e
      cases h
      obtain ⟨h1, h2, h3⟩ := fields_read s (by omega) _ 0 l (Nat.le_refl _) e
      have := wt_text l h1
      exact ⟨e, by omega, h1, h2, by omega⟩

/-- What has been gathered of a tensor. -/
structure TAcc where
  dims : List Int
  fl : List Int
  i32 : List Int
  i64s : List Int
  typ : Int
  name : ByteArray
  raw : ByteArray
def TAcc.none : TAcc := ⟨[], [], [], [], 0, ⟨#[]⟩, ⟨#[]⟩⟩
def orErr {α : Type} (e : Int) : Option α → Except Int α
  | some x => .ok x
  | .none => .error e
def tStep (a : TAcc) (f : Fd) : Except Int TAcc :=
  if f.num = 1 then (orErr 3 (varsS f)).map fun m => { a with dims := a.dims ++ m }
  else if f.num = 2 then (if f.kind = 0 then .ok { a with typ := i64 f.u } else .error 3)
  else if f.num = 4 then (orErr 3 (floatsS f)).map fun m => { a with fl := a.fl ++ m }
  else if f.num = 5 then (orErr 3 (varsS f)).map fun m => { a with i32 := a.i32 ++ m }
  else if f.num = 7 then (orErr 3 (varsS f)).map fun m => { a with i64s := a.i64s ++ m }
  else if f.num = 8 then (if f.kind = 2 then .ok { a with name := f.b } else .error 3)
  else if f.num = 9 then (if f.kind = 2 then .ok { a with raw := f.b } else .error 3)
  else .ok a
/-- Fields one by one. -/
def runF {α : Type} (g : α → Fd → Except Int α) : α → List Fd → Except Int α
  | a, [] => .ok a
  | a, f :: l => match g a f with | .error e => .error e | .ok b => runF g b l
theorem runF_append {α : Type} (g : α → Fd → Except Int α) (a : α) (l m : List Fd) : runF g a (l ++ m) = match runF g a l with | .error e => .error e | .ok b => runF g b m := by
  induction l generalizing a with
  | nil => rfl
  | cons f l ih =>
    simp only [List.cons_append, runF]
    cases h : g a f with
    | error e => rfl
    | ok b => exact ih b
theorem runF_take {α : Type} (g : α → Fd → Except Int α) (a : α) (l : List Fd) (k : Nat) (f : Fd) (h : l[k]? = some f) (b : α) (hk : runF g a (l.take k) = .ok b) : runF g a (l.take (k + 1)) = g b f := by
  rw [List.take_add_one, h]
  show runF g a (l.take k ++ [f]) = _
  rw [runF_append, hk]
  simp only [runF]
  cases g b f <;> rfl
/-- An error that comes up on the way is the whole's. -/
theorem runF_err {α : Type} (g : α → Fd → Except Int α) (a : α) (l : List Fd) (k : Nat) (e : Int) (h : runF g a (l.take k) = .error e) : runF g a l = .error e := by
  have := runF_append g a (l.take k) (l.drop k)
  rw [List.take_append_drop] at this
  rw [this, h]
theorem runF_bad {α : Type} (g : α → Fd → Except Int α) (a : α) (l : List Fd) (k : Nat) (f : Fd) (h : l[k]? = some f) (b : α) (hk : runF g a (l.take k) = .ok b) (e : Int) (hg : g b f = .error e) : runF g a l = .error e :=
  runF_err g a l (k + 1) e (by rw [runF_take g a l k f h b hk, hg])
theorem vars_len {f : Fd} {m : List Int} (h : varsS f = some m) : m.length ≤ f.b.size + 1 := by
  unfold varsS at h
  split at h
  · cases h; simp
  · split at h
    · cases e : packS f.b 0 with
      | none => rw [e] at h; cases h
      | some l =>
        rw [e] at h
        cases h
        have := pack_len f.b _ 0 l (Nat.le_refl _) e
        simp; omega
    · cases h
theorem floats_len {f : Fd} {m : List Int} (h : floatsS f = some m) : m.length ≤ f.b.size + 1 := by
  unfold floatsS at h
  split at h
  · cases h; simp
  · split at h
    · cases h
      rw [elems_len]; omega
    · cases h
def TAcc.lens (a : TAcc) : Nat := a.dims.length + a.fl.length + a.i32.length + a.i64s.length

/-- Two rows that lie in different blocks. -/
def Dj (v v' : Value) : Prop := ∀ k, v.ownBlock = some k → v'.ownBlock ≠ some k
theorem Dj.symm {v v' : Value} (h : Dj v v') : Dj v' v := fun k h1 h2 => h k h2 h1
/-- Four lists of the call's own. -/
structure Four (w : World) (B : Nat) (v1 v2 v3 v4 : Value) (l1 l2 l3 l4 : List Int) : Prop where
  o1 : OwnI w B v1 l1
  o2 : OwnI w B v2 l2
  o3 : OwnI w B v3 l3
  o4 : OwnI w B v4 l4
  d12 : Dj v1 v2
  d13 : Dj v1 v3
  d14 : Dj v1 v4
  d23 : Dj v2 v3
  d24 : Dj v2 v4
  d34 : Dj v3 v4
theorem four_nil (w : World) (B : Nat) : Four w B (.slice none 0 0) (.slice none 0 0) (.slice none 0 0) (.slice none 0 0) [] [] [] [] :=
  ⟨ownI_nil _ _, ownI_nil _ _, ownI_nil _ _, ownI_nil _ _, fun _ h => by simp [Value.ownBlock] at h, fun _ h => by simp [Value.ownBlock] at h, fun _ h => by simp [Value.ownBlock] at h, fun _ h => by simp [Value.ownBlock] at h, fun _ h => by simp [Value.ownBlock] at h, fun _ h => by simp [Value.ownBlock] at h⟩
section
variable {w w' : World} {B : Nat} {v1 v2 v3 v4 v' : Value} {l1 l2 l3 l4 l' : List Int}
theorem Four.rot (h : Four w B v1 v2 v3 v4 l1 l2 l3 l4) : Four w B v2 v3 v4 v1 l2 l3 l4 l1 := ⟨h.o2, h.o3, h.o4, h.o1, h.d23, h.d24, h.d12.symm, h.d34, h.d13.symm, h.d14.symm⟩
theorem Four.below (h : Four w B v1 v2 v3 v4 l1 l2 l3 l4) (hb : Below w.heap.size w w') : Four w' B v1 v2 v3 v4 l1 l2 l3 l4 := ⟨h.o1.below hb, h.o2.below hb, h.o3.below hb, h.o4.below hb, h.d12, h.d13, h.d14, h.d23, h.d24, h.d34⟩
theorem Four.set_far (h : Four w B v1 v2 v3 v4 l1 l2 l3 l4) {a : Addr} (ha : a.block < B) (u : Value) : Four (w.setCell a u) B v1 v2 v3 v4 l1 l2 l3 l4 := by
  have key : ∀ {v l}, OwnI w B v l → OwnI (w.setCell a u) B v l := fun ho => ho.keep fun k hk => Below.heap_setCell _ _ _ _ (by have := (OwnL.lt ho k hk).1; omega)
  exact ⟨key h.o1, key h.o2, key h.o3, key h.o4, h.d12, h.d13, h.d14, h.d23, h.d24, h.d34⟩
theorem dj_grow {v1 v2 v' : Value} {n : Nat} (h : Dj v1 v2) (hf : From v1 v' n) (hlt : ∀ k, v2.ownBlock = some k → k < n) : Dj v' v2 := fun k hk h2 => by
  rcases hf k hk with h1 | h1
  · exact h k h1 h2
  · have := hlt k h2; omega
theorem Four.g1 (h : Four w B v1 v2 v3 v4 l1 l2 l3 l4) (hg : w.grownBy w' v1.ownBlock) (ho : OwnI w' B v' l') (hf : From v1 v' w.heap.size) : Four w' B v' v2 v3 v4 l' l2 l3 l4 :=
  ⟨ho, h.o2.other hg fun k hk e => h.d12 k e hk, h.o3.other hg fun k hk e => h.d13 k e hk, h.o4.other hg fun k hk e => h.d14 k e hk,
    dj_grow h.d12 hf fun k hk => (OwnL.lt h.o2 k hk).2, dj_grow h.d13 hf fun k hk => (OwnL.lt h.o3 k hk).2, dj_grow h.d14 hf fun k hk => (OwnL.lt h.o4 k hk).2, h.d23, h.d24, h.d34⟩
theorem Four.g2 (h : Four w B v1 v2 v3 v4 l1 l2 l3 l4) (hg : w.grownBy w' v2.ownBlock) (ho : OwnI w' B v' l') (hf : From v2 v' w.heap.size) : Four w' B v1 v' v3 v4 l1 l' l3 l4 := (h.rot.g1 hg ho hf).rot.rot.rot
theorem Four.g3 (h : Four w B v1 v2 v3 v4 l1 l2 l3 l4) (hg : w.grownBy w' v3.ownBlock) (ho : OwnI w' B v' l') (hf : From v3 v' w.heap.size) : Four w' B v1 v2 v' v4 l1 l2 l' l4 := (h.rot.rot.g1 hg ho hf).rot.rot
theorem Four.g4 (h : Four w B v1 v2 v3 v4 l1 l2 l3 l4) (hg : w.grownBy w' v4.ownBlock) (ho : OwnI w' B v' l') (hf : From v4 v' w.heap.size) : Four w' B v1 v2 v3 v' l1 l2 l3 l' := (h.rot.rot.rot.g1 hg ho hf).rot
end
/-- The growth of an own list touches nothing of old. -/
theorem only_grown {b : Nat} {x y z : World} {r : Option Nat} (h : Only b x y) (hg : y.grownBy z r) (hr : ∀ k, r = some k → x.heap.size ≤ k) : Only b x z :=
  ⟨hg.os.trans h.os, hg.tape.trans h.tape, hg.output.trans h.output, Nat.le_trans h.size hg.size, fun k hk hne =>
    (hg.block k (Nat.lt_of_lt_of_le hk h.size) fun e => by have := hr k e.symm; omega).trans (h.block k hk hne)⟩
theorem only_below {b : Nat} {x y z : World} (h : Only b x y) (hb : Below y.heap.size y z) : Only b x z :=
  ⟨hb.os.trans h.os, hb.tape.trans h.tape, hb.output.trans h.output, Nat.le_trans h.size hb.size, fun k hk hne => (hb.block k (Nat.lt_of_lt_of_le hk h.size)).trans (h.block k hk hne)⟩
end Go.Proofs.Ytkcnpnnflbibiaa

/- The walks: a tensor read: what its loop keeps. -/
namespace Go.Proofs.Ytkcnpnnflbibiaa
open Go.RowKit

structure TInv (w1 wr : World) (gt : Nat) (a : TAcc) (v6 v7 v8 v9 : Value) : Prop where
  lt : gt < w1.heap.size
  four : Four wr w1.heap.size v6 v7 v8 v9 a.dims a.fl a.i32 a.i64s
  only : Only gt w1 wr
  t : wr.heap[gt]? = some (.cells #[.int .i64 a.typ, .slice none 0 0, .slice none 0 0] 47 (0, 0))
section
variable {w1 wr w' : World} {gt : Nat} {a : TAcc} {v6 v7 v8 v9 v' : Value} {m : List Int}
theorem TInv.below (h : TInv w1 wr gt a v6 v7 v8 v9) (hb : Below wr.heap.size wr w') : TInv w1 w' gt a v6 v7 v8 v9 :=
  ⟨h.lt, h.four.below hb, only_below h.only hb, (hb.block gt (Nat.lt_of_lt_of_le h.lt h.only.size)).trans h.t⟩
theorem TInv.alloc (h : TInv w1 wr gt a v6 v7 v8 v9) (o : Obj) : TInv w1 (wr.alloc o) gt a v6 v7 v8 v9 := h.below ((Below.refl _ _).alloc (Nat.le_refl _) o)
theorem TInv.keep_t (h : TInv w1 wr gt a v6 v7 v8 v9) {r : Option Nat} (hg : wr.grownBy w' r) (hr : ∀ k, r = some k → w1.heap.size ≤ k) : w'.heap[gt]? = some (.cells #[.int .i64 a.typ, .slice none 0 0, .slice none 0 0] 47 (0, 0)) :=
  (hg.block gt (Nat.lt_of_lt_of_le h.lt h.only.size) fun e => by have := hr gt e.symm; have := h.lt; omega).trans h.t
theorem TInv.g1 (h : TInv w1 wr gt a v6 v7 v8 v9) (hg : wr.grownBy w' v6.ownBlock) (ho : OwnI w' w1.heap.size v' (a.dims ++ m)) (hf : From v6 v' wr.heap.size) : TInv w1 w' gt { a with dims := a.dims ++ m } v' v7 v8 v9 :=
  ⟨h.lt, h.four.g1 hg ho hf, only_grown h.only hg fun k hk => (OwnL.lt h.four.o1 k hk).1, h.keep_t hg fun k hk => (OwnL.lt h.four.o1 k hk).1⟩
theorem TInv.g2 (h : TInv w1 wr gt a v6 v7 v8 v9) (hg : wr.grownBy w' v7.ownBlock) (ho : OwnI w' w1.heap.size v' (a.fl ++ m)) (hf : From v7 v' wr.heap.size) : TInv w1 w' gt { a with fl := a.fl ++ m } v6 v' v8 v9 :=
  ⟨h.lt, h.four.g2 hg ho hf, only_grown h.only hg fun k hk => (OwnL.lt h.four.o2 k hk).1, h.keep_t hg fun k hk => (OwnL.lt h.four.o2 k hk).1⟩
theorem TInv.g3 (h : TInv w1 wr gt a v6 v7 v8 v9) (hg : wr.grownBy w' v8.ownBlock) (ho : OwnI w' w1.heap.size v' (a.i32 ++ m)) (hf : From v8 v' wr.heap.size) : TInv w1 w' gt { a with i32 := a.i32 ++ m } v6 v7 v' v9 :=
  ⟨h.lt, h.four.g3 hg ho hf, only_grown h.only hg fun k hk => (OwnL.lt h.four.o3 k hk).1, h.keep_t hg fun k hk => (OwnL.lt h.four.o3 k hk).1⟩
theorem TInv.g4 (h : TInv w1 wr gt a v6 v7 v8 v9) (hg : wr.grownBy w' v9.ownBlock) (ho : OwnI w' w1.heap.size v' (a.i64s ++ m)) (hf : From v9 v' wr.heap.size) : TInv w1 w' gt { a with i64s := a.i64s ++ m } v6 v7 v8 v' :=
  ⟨h.lt, h.four.g4 hg ho hf, only_grown h.only hg fun k hk => (OwnL.lt h.four.o4 k hk).1, h.keep_t hg fun k hk => (OwnL.lt h.four.o4 k hk).1⟩
theorem TInv.styp (h : TInv w1 wr gt a v6 v7 v8 v9) (x : Int) : TInv w1 (wr.setCell ⟨gt, 0, none⟩ (.int .i64 x)) gt { a with typ := x } v6 v7 v8 v9 := by
  refine ⟨h.lt, h.four.set_far (by exact h.lt) _, h.only.set_ _ _, ?_⟩
  have := heap_setCell_same wr gt 0 #[.int .i64 a.typ, .slice none 0 0, .slice none 0 0] 47 (.int .i64 x) h.t
  simpa using this
theorem TInv.sname (h : TInv w1 wr gt a v6 v7 v8 v9) (x : ByteArray) : TInv w1 wr gt { a with name := x } v6 v7 v8 v9 := ⟨h.lt, h.four, h.only, h.t⟩
theorem TInv.sraw (h : TInv w1 wr gt a v6 v7 v8 v9) (x : ByteArray) : TInv w1 wr gt { a with raw := x } v6 v7 v8 v9 := ⟨h.lt, h.four, h.only, h.t⟩
end

/-- The call's own integers. -/
def OwnD (w : World) (B : Nat) (v : Value) (l : List Int) : Prop := OwnL repInt 3 w B (fun _ => False) v l
theorem ownD_nil (w : World) (B : Nat) : OwnD w B (.slice none 0 0) [] := ownL_nil
theorem OwnD.keep {w w' : World} {B : Nat} {v : Value} {l : List Int} (h : OwnD w B v l) (hv : ∀ k, v.ownBlock = some k → w'.heap[k]? = w.heap[k]?) : OwnD w' B v l := OwnL.keep h hv (fun _ h => h.elim) (fun _ h => h)
theorem OwnD.below {w w' : World} {B : Nat} {v : Value} {l : List Int} (h : OwnD w B v l) (hb : Below w.heap.size w w') : OwnD w' B v l := h.keep fun k hk => hb.block k (OwnL.lt h k hk).2
theorem OwnD.set_far {w : World} {B : Nat} {v : Value} {l : List Int} (h : OwnD w B v l) {a : Addr} (ha : a.block < B) (u : Value) : OwnD (w.setCell a u) B v l := h.keep fun k hk => Below.heap_setCell _ _ _ _ (by have := (OwnL.lt h k hk).1; omega)
theorem OwnI.set_far {w : World} {B : Nat} {v : Value} {l : List Int} (h : OwnI w B v l) {a : Addr} (ha : a.block < B) (u : Value) : OwnI (w.setCell a u) B v l := h.keep fun k hk => Below.heap_setCell _ _ _ _ (by have := (OwnL.lt h k hk).1; omega)
/-- One integer more. -/
theorem wpList_append_d1 {P : Program} (w : World) (x : Int) {ops : Array Oper} {rest : List Oper} {o : Oper} {a : Act} {Q : Exit → Act → World → Prop} (hgd : o.guard = none) (s y : Operand) (t : TypeId)
    (ho : o.op = .call { callee := .builtin .append, args := #[s, y], argTypes := #[t, t] })
    (i : TypeInfo) (z : Value) (hzc : z.cells.size = 1) (ht : P.underlying t = some (.slice 3)) (hi : P.info? 3 = some i) (hz : i.zero = some z) (hsize : i.size = 1) (hby : i.bytes = 8)
    (B : Nat) (v : Value) (l : List Int) (hs : a.eval s = v) (hown : OwnD w B v l) (g : Nat) (hgw : g = w.heap.size) (hx : a.eval y = .slice (some ⟨g, 0, none⟩) 1 1)
    (hlen : (l.length + 1) * 8 ≤ 140737488355328) (hbase : B ≤ w.heap.size)
    (h : ∀ v' w', OwnD w' B v' (l ++ [x]) → w.grownBy w' v.ownBlock → From v v' w.heap.size → wpList P ops Q rest (a.put o.dst v') w') : wpList P ops Q (o :: rest) a (w.alloc (.cells #[.int .i64 x] 3)) := by
  subst hgw
  have hnew := heap_alloc_new w (.cells #[.int .i64 x] 3)
  have hlt := OwnL.lt hown
  refine wpList_append_l _ hgd s y t ho repInt 3 i z 8 ht hi hz hsize hby hzc (by decide) B (fun _ => False) v l hs (hown.below ((Below.refl _ _).alloc (Nat.le_refl _) _)) (fun k => k = w.heap.size) _ 1 1 [x] hx (slc_temp (cs := [.int .i64 x]) hnew rfl rfl) (fun k h => h.elim) ?_ (by simp; omega) (by unfold maxLen; simp; omega) (by simp; omega) ?_
  · intro k hk
    subst hk
    refine ⟨by simp, fun e => ?_⟩
    have := hlt _ e
    omega
  · intro v' w' h1 h2 h3
    refine h v' w' (ints_free (h1 (fun k => k = w.heap.size) (fun _ h => h.elim) (fun _ h => h))) (grown_trans (grown_alloc w _ v.ownBlock) h2 (fun k hk => .inl hk)) (fun k hk => ?_)
    rcases h3 with h3 | h3
    · rw [h3] at hk; exact .inl hk
    · rw [h3] at hk; simp at hk; exact .inr (by omega)

/-- While the dimensions are copied. -/
structure TIn2 (w1 ws : World) (gt : Nat) (a : TAcc) (v6 v7 v8 v9 v : Value) (d : List Int) : Prop where
  lt : gt < w1.heap.size
  four : Four ws w1.heap.size v6 v7 v8 v9 a.dims a.fl a.i32 a.i64s
  only : Only gt w1 ws
  t : ws.heap[gt]? = some (.cells #[.int .i64 a.typ, v, .slice none 0 0] 47 (0, 0))
  own : OwnD ws w1.heap.size v d
  d6 : Dj v v6
  d7 : Dj v v7
  d8 : Dj v v8
  d9 : Dj v v9
section
variable {w1 wr w' : World} {gt : Nat} {a : TAcc} {v6 v7 v8 v9 v v' : Value} {d d' : List Int}
theorem TInv.two (h : TInv w1 wr gt a v6 v7 v8 v9) : TIn2 w1 wr gt a v6 v7 v8 v9 (.slice none 0 0) [] :=
  ⟨h.lt, h.four, h.only, h.t, ownD_nil _ _, fun _ h => by simp [Value.ownBlock] at h, fun _ h => by simp [Value.ownBlock] at h, fun _ h => by simp [Value.ownBlock] at h, fun _ h => by simp [Value.ownBlock] at h⟩
theorem TIn2.alloc (h : TIn2 w1 wr gt a v6 v7 v8 v9 v d) (o : Obj) : TIn2 w1 (wr.alloc o) gt a v6 v7 v8 v9 v d := by
  have hb : Below wr.heap.size wr (wr.alloc o) := (Below.refl _ _).alloc (Nat.le_refl _) o
  exact ⟨h.lt, h.four.below hb, only_below h.only hb, (hb.block gt (Nat.lt_of_lt_of_le h.lt h.only.size)).trans h.t, h.own.below hb, h.d6, h.d7, h.d8, h.d9⟩
theorem TIn2.t_grown (h : TIn2 w1 wr gt a v6 v7 v8 v9 v d) (hg : wr.grownBy w' v.ownBlock) : w'.heap[gt]? = some (.cells #[.int .i64 a.typ, v, .slice none 0 0] 47 (0, 0)) :=
  (hg.block gt (Nat.lt_of_lt_of_le h.lt h.only.size) fun e => by have := (OwnL.lt h.own gt e.symm).1; have := h.lt; omega).trans h.t
/-- One dimension more, and stored. -/
theorem TIn2.more (h : TIn2 w1 wr gt a v6 v7 v8 v9 v d) (hg : wr.grownBy w' v.ownBlock) (ho : OwnD w' w1.heap.size v' d') (hf : From v v' wr.heap.size) : TIn2 w1 (w'.setCell ⟨gt, 1, none⟩ v') gt a v6 v7 v8 v9 v' d' := by
  have ht : w'.heap[gt]? = some (.cells #[.int .i64 a.typ, v, .slice none 0 0] 47 (0, 0)) := (hg.block gt (Nat.lt_of_lt_of_le h.lt h.only.size) fun e => by have := (OwnL.lt h.own gt e.symm).1; have := h.lt; omega).trans h.t
  have hf4 : Four w' w1.heap.size v6 v7 v8 v9 a.dims a.fl a.i32 a.i64s :=
    ⟨h.four.o1.other hg fun k hk e => h.d6 k e hk, h.four.o2.other hg fun k hk e => h.d7 k e hk, h.four.o3.other hg fun k hk e => h.d8 k e hk, h.four.o4.other hg fun k hk e => h.d9 k e hk, h.four.d12, h.four.d13, h.four.d14, h.four.d23, h.four.d24, h.four.d34⟩
  refine ⟨h.lt, hf4.set_far (by exact h.lt) _, (only_grown h.only hg fun k hk => (OwnL.lt h.own k hk).1).set_ _ _, ?_, ho.set_far (by exact h.lt) _, dj_grow h.d6 hf fun k hk => (OwnL.lt h.four.o1 k hk).2, dj_grow h.d7 hf fun k hk => (OwnL.lt h.four.o2 k hk).2, dj_grow h.d8 hf fun k hk => (OwnL.lt h.four.o3 k hk).2, dj_grow h.d9 hf fun k hk => (OwnL.lt h.four.o4 k hk).2⟩
  have := heap_setCell_same w' gt 1 #[.int .i64 a.typ, v, .slice none 0 0] 47 v' ht
  simpa using this
end
theorem own_ints {e : TypeId} {w : World} {B : Nat} {A : Option Addr} {c n : Nat} {l : List Int} (h : OwnL repInt e w B (fun _ => False) (.slice A n c) l) (hn : n = l.length) : Ints w w.heap.size A n l := by
  refine slc_ints (Z := fun k => k < w.heap.size) (h.slc hn (by decide) (fun k h => h.elim) fun a ha => ?_) fun k h => h
  subst ha
  rcases h.own with ⟨xs, hx, _⟩
  rcases hx.2 with ⟨e1, _⟩ | ⟨g, cap, cur, e1, _, hg, _⟩
  · simp at e1
  · simp only [Value.slice.injEq, Option.some.injEq] at e1
    rw [e1.1]
    exact (Array.getElem?_eq_some_iff.1 hg).1
theorem own_isSlc {e : TypeId} {w : World} {B B' : Nat} {v : Value} {l : List Int} (h : OwnL repInt e w B (fun _ => False) v l) (hB : B' ≤ B) : IsSlc repInt w (fun k => B' ≤ k ∧ k < w.heap.size) v l := by
  obtain ⟨A, c, rfl⟩ := h.form
  refine ⟨A, _, c, rfl, h.slc rfl (by decide) (fun k h => h.elim) fun a ha => ?_⟩
  subst ha
  rcases h.own with ⟨xs, hx, _⟩
  rcases hx.2 with ⟨e1, _⟩ | ⟨g, cap, cur, e1, hb, hg, _⟩
  · simp at e1
  · simp only [Value.slice.injEq, Option.some.injEq] at e1
    rw [e1.1]
    exact ⟨by dsimp only; omega, (Array.getElem?_eq_some_iff.1 hg).1⟩

theorem tensor_fin {w w1 w4 : World} {d e : Value} {dims data : List Int} (HD4 : OwnD w4 w1.heap.size d dims) (HE4 : OwnI w4 w1.heap.size e data)
    (G4 : w4.heap[w.heap.size]? = some (.cells #[.string ⟨#[]⟩, .int .i64 0, .slice none 0 0, .slice none 0 0] 69 (0, 0))) (HB4 : Below w.heap.size w w4) (z : w.heap.size < w1.heap.size) (name : ByteArray) (typ : Int) :
    ((((w4.setCell ⟨w.heap.size, 0, none⟩ (.string name)).setCell ⟨w.heap.size, 1, none⟩ (.int .i64 typ)).setCell ⟨w.heap.size, 2, none⟩ d).setCell ⟨w.heap.size, 3, none⟩ e).heap[w.heap.size]? = some (.cells #[.string name, .int .i64 typ, d, e] 69 (0, 0)) ∧
    Below w.heap.size w ((((w4.setCell ⟨w.heap.size, 0, none⟩ (.string name)).setCell ⟨w.heap.size, 1, none⟩ (.int .i64 typ)).setCell ⟨w.heap.size, 2, none⟩ d).setCell ⟨w.heap.size, 3, none⟩ e) ∧
    repNm.R ((((w4.setCell ⟨w.heap.size, 0, none⟩ (.string name)).setCell ⟨w.heap.size, 1, none⟩ (.int .i64 typ)).setCell ⟨w.heap.size, 2, none⟩ d).setCell ⟨w.heap.size, 3, none⟩ e) (fun k => w.heap.size ≤ k ∧ k < ((((w4.setCell ⟨w.heap.size, 0, none⟩ (.string name)).setCell ⟨w.heap.size, 1, none⟩ (.int .i64 typ)).setCell ⟨w.heap.size, 2, none⟩ d).setCell ⟨w.heap.size, 3, none⟩ e).heap.size) [.string name, .int .i64 typ, d, e] ⟨name, ⟨typ, dims, data⟩⟩ := by
  refine ⟨?_, (((HB4.setCell (Nat.le_refl _) _).setCell (Nat.le_refl _) _).setCell (Nat.le_refl _) _).setCell (Nat.le_refl _) _, d, e, rfl, ?_, ?_⟩
  · have h1 := heap_setCell_same w4 w.heap.size 0 _ 69 (.string name) G4
    have h2 := heap_setCell_same _ w.heap.size 1 _ 69 (.int .i64 typ) h1
    have h3 := heap_setCell_same _ w.heap.size 2 _ 69 d h2
    have h4 := heap_setCell_same _ w.heap.size 3 _ 69 e h3
    simpa using h4
  · exact own_isSlc ((((HD4.set_far (a := ⟨w.heap.size, 0, none⟩) z (.string name)).set_far (a := ⟨w.heap.size, 1, none⟩) z (.int .i64 typ)).set_far (a := ⟨w.heap.size, 2, none⟩) z d).set_far (a := ⟨w.heap.size, 3, none⟩) z e) (Nat.le_of_lt z)
  · exact own_isSlc ((((HE4.set_far (a := ⟨w.heap.size, 0, none⟩) z (.string name)).set_far (a := ⟨w.heap.size, 1, none⟩) z (.int .i64 typ)).set_far (a := ⟨w.heap.size, 2, none⟩) z d).set_far (a := ⟨w.heap.size, 3, none⟩) z e) (Nat.le_of_lt z)
end Go.Proofs.Ytkcnpnnflbibiaa
