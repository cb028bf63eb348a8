/- The walks: small ones of the reader. The length of a list of fields. The walks: the lowest bytes; a message's fields. The walks: numbers of a field, put behind some. -/
import Derived.Test.YtkcnpnnflbibiaaZe
import Derived.Test.YtkcnpnnflbibiaaZa
import Derived.Test.YtkcnpnnflbibiaaZd
import Derived.Test.YtkcnpnnflbibiaaZb
set_option linter.unusedVariables false
/- The walks: small ones of the reader. -/
namespace Go.Proofs.Ytkcnpnnflbibiaa
open Go.RowKit

/-- What a refused text panics with. -/
def refu (err : Int) : List PanicEntry := [{ v := .iface 54 (.int .i64 err), recovered := false }]

theorem must_yes (err : Int) (w : World) : Calls Try.prog 22 #[.bool true, .int .i64 err] w fun e w' => e = .returned (.tuple #[]) ∧ w = w' := by
  go_enter Try.func22, Try.ntmps22
  go_wp2
  go_end0
  exact ⟨rfl, rfl⟩
theorem must_no (err : Int) (w : World) : Calls Try.prog 22 #[.bool false, .int .i64 err] w fun e w' => e = .panicked (refu err) ∧ w = w' := by
  go_enter Try.func22, Try.ntmps22
  go_wp2
  exact ⟨rfl, rfl, rfl⟩

/-- The bits of a number that is none. -/
def strange (x : Int) : Bool := (bits .and .i64 x 2139095040 == 2139095040) && (bits .and .i64 x 8388607 != 0)
def chk (typ x : Int) : Bool :=
  if typ = 1 then (x / 4294967296 == 0) && (!strange x || x == 2143289344)
  else if typ = 6 then x == wrap64 (wrap32 x)
  else if typ = 9 then x / 2 == 0
  else typ == 7
theorem boo_ret {a b : Bool} (h : a = b) : Ending.returned (.bool a) = .returned (.bool b) := by rw [h]
set_option maxHeartbeats 800000 in
theorem chk_any (typ x : Int) (w : World) : Calls Try.prog 48 #[.int .i64 typ, .int .i64 x] w fun e w' => e = .returned (.bool (chk typ x)) ∧ w = w' := by
  by_cases h1 : typ = 1
  · subst h1
    go_enter Try.func48, Try.ntmps48
    go_wp2
    all_goals
      go_ret
      exact ⟨boo_ret (by simp [chk, strange, *]), rfl⟩
  · by_cases h6 : typ = 6
    · subst h6
      go_enter Try.func48, Try.ntmps48
      go_wp2
      all_goals
        go_ret
        exact ⟨boo_ret (by simp [chk]), rfl⟩
    · by_cases h9 : typ = 9
      · subst h9
        go_enter Try.func48, Try.ntmps48
        go_wp2
        all_goals
          go_ret
          exact ⟨boo_ret (by simp [chk]), rfl⟩
      · go_enter Try.func48, Try.ntmps48
        go_wp2
        all_goals
          go_ret
          exact ⟨boo_ret (by simp [chk, *]), rfl⟩
def typd (typ : Int) : Bool := chk typ 0
theorem typed_any (typ : Int) (w : World) : Calls Try.prog 44 #[.int .i64 typ] w fun e w' => e = .returned (.bool (typd typ)) ∧ w = w' := by
  go_enter Try.func44, Try.ntmps44
  go_wp2_with fail
  refine (chk_any typ 0 w).mono ?_
  rintro e w1 ⟨rfl, rfl⟩
  go_wp2
  go_ret
  exact ⟨rfl, rfl⟩

/-- What a call leaves whose answer is one value, or that refuses. -/
def Ans (r : Except Int Value) (w : World) (e : Ending) (w' : World) : Prop :=
  Below w.heap.size w w' ∧ ((∃ v, r = .ok v ∧ e = .returned v) ∨ (∃ err, r = .error err ∧ e = .panicked (refu err)))
theorem pass_any (f : Fd) (w : World) : Calls Try.prog 21 #[f.val] w fun e w' => e = .returned (.tuple #[]) ∧ Below w.heap.size w w' := by
  unfold Fd.val
  go_enter Try.func21, Try.ntmps21
  go_wp2
  go_end0
  exact ⟨rfl, (Below.refl _ _).alloc (Nat.le_refl _) _⟩
theorem text_yes (num u : Int) (b : ByteArray) (w : World) : Calls Try.prog 52 #[(Fd.mk num 2 u b).val] w fun e w' => e = .returned (.string b) ∧ Below w.heap.size w w' := by
  unfold Fd.val
  go_enter Try.func52, Try.ntmps52
  go_wp2_with fail
  refine (must_yes _ _).mono ?_
  rintro e w1 ⟨rfl, rfl⟩
  go_wp2
  go_ret
  exact ⟨rfl, (Below.refl _ _).alloc (Nat.le_refl _) _⟩
theorem text_no (num kind u : Int) (b : ByteArray) (w : World) (h : kind ≠ 2) : Calls Try.prog 52 #[(Fd.mk num kind u b).val] w fun e w' => e = .panicked (refu 3) ∧ Below w.heap.size w w' := by
  have e1 : (kind == 2) = false := by simpa using h
  unfold Fd.val
  go_enter Try.func52, Try.ntmps52
  go_wp2_with fail
  refine (must_no _ _).mono ?_
  rintro e w1 ⟨rfl, rfl⟩
  go_wp2
  exact ⟨rfl, rfl, (Below.refl _ _).alloc (Nat.le_refl _) _⟩
/-- A number as one of 64 bits with a sign. -/
def i64 (u : Int) : Int := wrap64 u
theorem varint_yes (num u : Int) (b : ByteArray) (w : World) : Calls Try.prog 74 #[(Fd.mk num 0 u b).val] w fun e w' => e = .returned (.int .i64 (i64 u)) ∧ Below w.heap.size w w' := by
  unfold Fd.val
  go_enter Try.func74, Try.ntmps74
  go_wp2_with fail
  refine (must_yes _ _).mono ?_
  rintro e w1 ⟨rfl, rfl⟩
  go_wp2
  go_ret
  exact ⟨rfl, (Below.refl _ _).alloc (Nat.le_refl _) _⟩
theorem varint_no (num kind u : Int) (b : ByteArray) (w : World) (h : kind ≠ 0) : Calls Try.prog 74 #[(Fd.mk num kind u b).val] w fun e w' => e = .panicked (refu 3) ∧ Below w.heap.size w w' := by
  have e1 : (kind == 0) = false := by simpa using h
  unfold Fd.val
  go_enter Try.func74, Try.ntmps74
  go_wp2_with fail
  refine (must_no _ _).mono ?_
  rintro e w1 ⟨rfl, rfl⟩
  go_wp2
  exact ⟨rfl, rfl, (Below.refl _ _).alloc (Nat.le_refl _) _⟩
/-- The element of 32 bits. -/
def flt (u : Int) : Int := if chk 1 (u % 4294967296) then u % 4294967296 else 2143289344
theorem float_any (u : Int) (w : World) (h0 : 0 ≤ u) (h1 : u < 18446744073709551616) : Calls Try.prog 88 #[.int .u64 u] w fun e w' => e = .returned (.int .i64 (flt u)) ∧ w = w' := by
  go_enter Try.func88, Try.ntmps88
  go_wp2_with fail
  refine (chk_any 1 _ w).mono ?_
  rintro e w1 ⟨rfl, rfl⟩
  cases hc : chk 1 (u % 4294967296)
  · go_wp2
    go_ret
    exact ⟨by simp [flt, hc], rfl⟩
  · go_wp2
    go_ret
    exact ⟨by simp [flt, hc], rfl⟩
end Go.Proofs.Ytkcnpnnflbibiaa

/- The length of a list of fields. -/
namespace Go.Proofs.Ytkcnpnnflbibiaa
open Go.RowKit

theorem FdsIs.err {s : ByteArray} {l : List Fd} {err : Int} (h : FdsIs s l err) : err = 0 ∨ err = 3 ∨ err = 6 := by
  rcases h with ⟨_, _, rfl⟩ | ⟨_, _, _, rfl⟩ | ⟨_, _, rfl⟩ <;> simp
theorem FdsIs.good {s : ByteArray} {l : List Fd} (h : FdsIs s l 0) : fieldsS s 0 = some l ∧ s.size ≤ 16777216 := by
  rcases h with ⟨_, _, h⟩ | ⟨_, _, _, h⟩ | ⟨h1, h2, _⟩
  · cases h
  · cases h
  · exact ⟨h2, h1⟩

theorem fields_len (s : ByteArray) : ∀ k p l, s.size - p ≤ k → fieldsS s p = some l → l.length ≤ s.size - p := by
  intro k
  induction k with
  | zero =>
    intro p l hk h
    rw [fields_end (by omega)] at h
    cases h; simp
  | succ k ih =>
    intro p l hk h
    by_cases hlt : p < s.size
    · cases hf : fieldS s p with
      | none => rw [fields_bad hlt hf] at h; cases h
      | some r =>
        obtain ⟨f, n⟩ := r
        have hb := fieldS_bd hf
        rw [fields_step hlt hf] at h
        cases hr : fieldsS s n with
        | none => rw [hr] at h; cases h
        | some l' =>
          rw [hr] at h
          cases h
          have := ih n l' (by omega) hr
          simp; omega
    · rw [fields_end hlt] at h
      cases h; simp

end Go.Proofs.Ytkcnpnnflbibiaa

/- The walks: the lowest bytes; a message's fields. -/
namespace Go.Proofs.Ytkcnpnnflbibiaa
open Go.RowKit

/-- What k bytes make, the lowest first, counted upward. -/
def upS (s : ByteArray) : Nat → Int
  | 0 => 0
  | k + 1 => upS s k + bt s k * 256 ^ k
theorem upS_bd (s : ByteArray) (k : Nat) : 0 ≤ upS s k ∧ upS s k < 256 ^ k := by
  induction k with
  | zero => simp [upS]
  | succ k ih =>
    have hb := bt_bd s k
    have hp : (0 : Int) < 256 ^ k := Int.pow_pos (by omega)
    have h1 : 0 ≤ bt s k * 256 ^ k := Int.mul_nonneg hb.1 (by omega)
    have h2 : bt s k * 256 ^ k ≤ 255 * 256 ^ k := Int.mul_le_mul_of_nonneg_right hb.2 (by omega)
    rw [upS, Int.pow_succ]
    omega
theorem part_64 (s : ByteArray) (k : Nat) (hk : k ≤ 7) : 0 ≤ bt s k * 256 ^ k ∧ bt s k * 256 ^ k < 18446744073709551616 := by
  have hb := bt_bd s k
  have hp : (0 : Int) < 256 ^ k := Int.pow_pos (by omega)
  have h1 : 0 ≤ bt s k * 256 ^ k := Int.mul_nonneg hb.1 (by omega)
  have h2 : bt s k * 256 ^ k ≤ 255 * 256 ^ k := Int.mul_le_mul_of_nonneg_right hb.2 (by omega)
  have h3 := pow256_le k 7 hk
  have h4 : (256 : Int) ^ 7 = 72057594037927936 := by decide
  omega
theorem pow256 (k : Nat) : (2 : Int) ^ (8 * k) = 256 ^ k := by rw [Int.pow_mul]; rfl
theorem orb (s : ByteArray) (k : Nat) (hk : k ≤ 7) : bits .or .u64 (upS s k) (IntKind.u64.wrap (bt s k * 2 ^ (8 * k))) = upS s (k + 1) := by
  have hp := part_64 s k hk
  have hu := upS_bd s k
  have h3 := pow256_le k 7 hk
  have h4 : (256 : Int) ^ 7 = 72057594037927936 := by decide
  rw [pow256, IntWalk.u64_in _ ⟨hp.1, by omega⟩]
  rw [bits_join_low .u64 64 (by decide) wraps_u64 (8 * k) (upS s k) (bt s k * 256 ^ k) hu.1 (by rw [pow256]; exact hu.2) (by omega) hp.1 (by rw [pow256]; exact Int.mul_emod_left _ _) (by omega)]
  rfl

set_option maxHeartbeats 800000 in
theorem low_w (s : ByteArray) (w : World) (hs : s.size ≤ 8) : Calls Try.prog 90 #[.string s] w fun e w' => e = .returned (.int .u64 (upS s s.size)) ∧ w = w' := by
  go_enter Try.func90, Try.ntmps90
  go_wp2_with fail
  go_loop [3, 4, 7] (fun u _ i => ∃ k : Nat, k ≤ s.size ∧ i = .int .i64 k ∧ u = .int .u64 (upS s k)) (fun _ _ i => s.size - (intOf i).toNat)
  case atStart => exact ⟨0, by omega, rfl, rfl⟩
  case round =>
    obtain ⟨k, hk, rfl, rfl⟩ := hrel
    by_cases hlt : k < s.size
    · have hix := fun w => idx_str s k hlt w k rfl
      have Ho := Lib.hid (orb s k (by omega))
      have hb := bt_bd s k
      have hu := (upS_bd s k).1
      go_wp2
      go_round
      case rel => exact ⟨k + 1, by omega, by go_num, by rw [← Ho.out]⟩
      case measure => simp [intOf]; omega
    · obtain rfl : k = s.size := by omega
      go_wp2
      go_ret
      exact ⟨rfl, rfl⟩

/-- A message's fields, or the error. -/
def fldsE (s : ByteArray) : Except Int (List Fd) := if 16777216 < s.size then .error 6 else match fieldsS s 0 with | none => .error 3 | some l => .ok l
theorem fldsE_is (s : ByteArray) : (∃ l, fldsE s = .ok l ∧ FdsIs s l 0) ∨ (∃ err, fldsE s = .error err ∧ err ≠ 0 ∧ FdsIs s [] err) := by
  unfold fldsE
  by_cases h : 16777216 < s.size
  · rw [if_pos h]; exact .inr ⟨6, rfl, by decide, .inl ⟨h, rfl, rfl⟩⟩
  · rw [if_neg h]
    cases e : fieldsS s 0 with
    | none => exact .inr ⟨3, rfl, by decide, .inr (.inl ⟨by omega, e, rfl, rfl⟩)⟩
    | some l => exact .inl ⟨l, rfl, .inr (.inr ⟨by omega, e, rfl⟩)⟩
/-- What fields leaves. -/
def FieldsIs (s : ByteArray) (w : World) (e : Ending) (w' : World) : Prop :=
  Below w.heap.size w w' ∧ ((∃ l A c, fldsE s = .ok l ∧ e = .returned (.slice A l.length c) ∧ OwnF w' w.heap.size (.slice A l.length c) l) ∨ (∃ err, fldsE s = .error err ∧ e = .panicked (refu err)))

set_option maxHeartbeats 800000 in
theorem fields_any (s : ByteArray) (w : World) (hs : s.size ≤ 140737488351232) : Calls Try.prog 51 #[.string s] w (FieldsIs s w) := by
  rcases fldsE_is s with ⟨l, he, hl⟩ | ⟨err, he, hne, hl⟩
  · have T := pfields_any s w hs l 0 hl
    go_enter Try.func51, Try.ntmps51
    go_wp2_with fail
    refine T.mono ?_
    rintro e w1 ⟨A1, n1, c1, rfl, rfl, ho1, hb1⟩
    have Ho := Lib.hid ho1
    have Hb := Lib.hid hb1
    have He := Lib.hid he
    clear ho1 hb1 T he hl
    go_wp2_with fail
    refine (must_yes _ _).mono ?_
    rintro e w2 ⟨rfl, rfl⟩
    go_wp2
    go_ret
    exact ⟨Hb.out, .inl ⟨l, _, _, He.out, rfl, Ho.out⟩⟩
  · have T := pfields_any s w hs [] err hl
    have h0 : (err == 0) = false := by simpa using hne
    have He := Lib.hid he
    clear he hne hl
    go_enter Try.func51, Try.ntmps51
    go_wp2_with fail
    refine T.mono ?_
    rintro e w1 ⟨A1, n1, c1, rfl, rfl, ho1, hb1⟩
    have Hb := Lib.hid hb1
    clear ho1 hb1 T
    go_wp2_with fail
    refine (must_no _ _).mono ?_
    rintro e w2 ⟨rfl, rfl⟩
    go_wp2
    exact ⟨rfl, Hb.out, .inr ⟨err, He.out, rfl⟩⟩
end Go.Proofs.Ytkcnpnnflbibiaa

/- The walks: numbers of a field, put behind some. -/
namespace Go.Proofs.Ytkcnpnnflbibiaa
open Go.RowKit

theorem grown_below {w w' : World} (h : Below w.heap.size w w') (r : Option Nat) : w.grownBy w' r := ⟨h.os, h.tape, h.output, h.size, fun k hk _ => h.block k hk⟩
theorem grown_trans {w w1 w2 : World} {r r' : Option Nat} (h : w.grownBy w1 r) (g : w1.grownBy w2 r') (hr : ∀ k, r' = some k → r = some k ∨ w.heap.size ≤ k) : w.grownBy w2 r :=
  ⟨g.os.trans h.os, g.tape.trans h.tape, g.output.trans h.output, Nat.le_trans h.size g.size, fun k hk hne => by
    refine (g.block k (Nat.lt_of_lt_of_le hk h.size) fun e => ?_).trans (h.block k hk hne)
    rcases hr k e.symm with h1 | h1
    · exact hne h1.symm
    · omega⟩
theorem grown_alloc (w : World) (o : Obj) (r : Option Nat) : w.grownBy (w.alloc o) r := grown_below ((Below.refl _ _).alloc (Nat.le_refl _) o) r
/-- Where the row of a list lies that has grown. -/
def From (v v' : Value) (n : Nat) : Prop := ∀ k, v'.ownBlock = some k → v.ownBlock = some k ∨ n ≤ k
theorem From.refl (v : Value) (n : Nat) : From v v n := fun _ h => .inl h
theorem From.trans {v v1 v2 : Value} {n m : Nat} (h : From v v1 n) (g : From v1 v2 m) (hnm : n ≤ m) : From v v2 n := fun k hk => by
  rcases g k hk with h1 | h1
  · exact h k h1
  · exact .inr (by omega)

theorem ints_free {e : TypeId} {w : World} {B : Nat} {Z Z' : Nat → Prop} {v : Value} {l : List Int} (h : OwnL repInt e w B Z v l) : OwnL repInt e w B Z' v l := by
  obtain ⟨xs, hx, hr⟩ := h.own
  exact ⟨⟨xs, hx, fun j x hj => by
    obtain ⟨cs, h1, h2⟩ := hr j x hj
    exact ⟨cs, h1, h2⟩⟩, h.small⟩
/-- The call's own integers of 64 bits. -/
def OwnI (w : World) (B : Nat) (v : Value) (l : List Int) : Prop := OwnL repInt 2 w B (fun _ => False) v l
theorem ownI_nil (w : World) (B : Nat) : OwnI w B (.slice none 0 0) [] := ownL_nil
theorem OwnI.keep {w w' : World} {B : Nat} {v : Value} {l : List Int} (h : OwnI w B v l) (hv : ∀ k, v.ownBlock = some k → w'.heap[k]? = w.heap[k]?) : OwnI w' B v l := OwnL.keep h hv (fun _ h => h.elim) (fun _ h => h)
theorem OwnI.below {w w' : World} {B : Nat} {v : Value} {l : List Int} (h : OwnI w B v l) (hb : Below w.heap.size w w') : OwnI w' B v l := h.keep fun k hk => hb.block k (OwnL.lt h k hk).2
theorem OwnI.alloc {w : World} {B : Nat} {v : Value} {l : List Int} (h : OwnI w B v l) (o : Obj) : OwnI (w.alloc o) B v l := h.below ((Below.refl _ _).alloc (Nat.le_refl _) o)
/-- Another list's growth leaves it. -/
theorem OwnI.other {w w' : World} {B : Nat} {v : Value} {l : List Int} (h : OwnI w B v l) {r : Option Nat} (hg : w.grownBy w' r) (hne : ∀ k, v.ownBlock = some k → r ≠ some k) : OwnI w' B v l :=
  h.keep fun k hk => hg.block k (OwnL.lt h k hk).2 fun e => hne k hk e.symm
theorem Try.info2 : (Try.prog.info? 2).map (fun i => (i.zero, i.size, i.bytes)) = some (some (.int .i64 0), 1, 8) := by kernel_rfl
/-- One number more. -/
theorem wpList_append_i1 {P : Program} (w : World) (x : Int) {ops : Array Oper} {rest : List Oper} {o : Oper} {a : Act} {Q : Exit → Act → World → Prop} (hgd : o.guard = none) (s y : Operand) (t : TypeId)
    (ho : o.op = .call { callee := .builtin .append, args := #[s, y], argTypes := #[t, t] })
    (i : TypeInfo) (z : Value) (hzc : z.cells.size = 1) (ht : P.underlying t = some (.slice 2)) (hi : P.info? 2 = some i) (hz : i.zero = some z) (hsize : i.size = 1) (hby : i.bytes = 8)
    (B : Nat) (v : Value) (l : List Int) (hs : a.eval s = v) (hown : OwnI w B v l) (g : Nat) (hgw : g = w.heap.size) (hx : a.eval y = .slice (some ⟨g, 0, none⟩) 1 1)
    (hlen : (l.length + 1) * 8 ≤ 140737488355328) (hbase : B ≤ w.heap.size)
    (h : ∀ v' w', OwnI w' B v' (l ++ [x]) → w.grownBy w' v.ownBlock → From v v' w.heap.size → wpList P ops Q rest (a.put o.dst v') w') : wpList P ops Q (o :: rest) a (w.alloc (.cells #[.int .i64 x] 2)) := by
  subst hgw
  have hnew := heap_alloc_new w (.cells #[.int .i64 x] 2)
  have hlt := OwnL.lt hown
  refine wpList_append_l _ hgd s y t ho repInt 2 i z 8 ht hi hz hsize hby hzc (by decide) B (fun _ => False) v l hs (hown.alloc _) (fun k => k = w.heap.size) _ 1 1 [x] hx (slc_temp (cs := [.int .i64 x]) hnew rfl rfl) (fun k h => h.elim) ?_ (by simp; omega) (by unfold maxLen; simp; omega) (by simp; omega) ?_
  · intro k hk
    subst hk
    refine ⟨by simp, fun e => ?_⟩
    have := hlt _ e
    omega
  · intro v' w' h1 h2 h3
    refine h v' w' (ints_free (h1 (fun k => k = w.heap.size) (fun _ h => h.elim) (fun _ h => h))) (grown_trans (grown_alloc w _ v.ownBlock) h2 (fun k hk => .inl hk)) (fun k hk => ?_)
    · rcases h3 with h3 | h3
      · rw [h3] at hk; exact .inl hk
      · rw [h3] at hk; simp at hk; exact .inr (by omega)

def varsS (f : Fd) : Option (List Int) := if f.kind = 0 then some [i64 f.u] else if f.kind = 2 then (packS f.b 0).map (·.map i64) else none
/-- What varints leaves. -/
def VarsIs (v : Value) (l : List Int) (r : Option (List Int)) (B : Nat) (w : World) (e : Ending) (w' : World) : Prop :=
  w.grownBy w' v.ownBlock ∧ ((∃ m v', r = some m ∧ e = .returned v' ∧ OwnI w' B v' (l ++ m) ∧ From v v' w.heap.size) ∨ (r = none ∧ e = .panicked (refu 3)))
theorem pack_len (s : ByteArray) : ∀ k p l, s.size - p ≤ k → packS s p = some l → l.length ≤ s.size - p := by
  intro k
  induction k with
  | zero =>
    intro p l hk h
    rw [pack_end (by omega)] at h
    cases h; simp
  | succ k ih =>
    intro p l hk h
    by_cases hlt : p < s.size
    · cases hf : tk s p with
      | none => rw [pack_bad hlt hf] at h; cases h
      | some r =>
        obtain ⟨f, n⟩ := r
        have hb := tk_bd hf
        rw [pack_step hlt hf] at h
        cases hr : packS s n with
        | none => rw [hr] at h; cases h
        | some l' =>
          rw [hr] at h
          cases h
          have := ih n l' (by omega) hr
          simp; omega
    · rw [pack_end hlt] at h
      cases h; simp
theorem vars_no {v : Value} {l : List Int} {B : Nat} {w w' : World} {r : Option (List Int)} (hg : w.grownBy w' v.ownBlock) (hr : r = none) : VarsIs v l r B w (.panicked (refu 3)) w' := ⟨hg, .inr ⟨hr, rfl⟩⟩

set_option maxRecDepth 100000 in
set_option maxHeartbeats 1600000 in
theorem varints_any (v : Value) (l : List Int) (f : Fd) (B : Nat) (w : World) (hown : OwnI w B v l) (hB : B ≤ w.heap.size) (hb : f.b.size ≤ 16777216) (hl : l.length ≤ 16777216) :
    Calls Try.prog 73 #[v, f.val] w (VarsIs v l (varsS f) B w) := by
  obtain ⟨i0, hi, hz0, hz1, hz2⟩ := info_parts Try.info2
  have Ho := Lib.hid hown
  have hlt := OwnL.lt hown
  have Hlt := Lib.hid hlt
  clear hown hlt
  obtain ⟨num, kind, u, b⟩ := f
  dsimp only at hb
  unfold Fd.val
  by_cases h0 : kind = 0
  · subst h0
    go_enter Try.func73, Try.ntmps73
    go_wp2_with (at_builtin; refine wpList_append_i1 (w.alloc (.cells #[.int .i64 num, .int .i64 0, .int .u64 u, .string b] 24)) _ rfl (.tmp 12) (.tmp 16) 45 rfl i0 _ rfl Try.underlying45 hi hz0 hz1 hz2 B v l rfl (Ho.out.alloc _) (w.heap.size + 1) (by simp) rfl (by omega) (by simp; omega) ?_; intro v' w2 ho2 hg2 hf2)
    go_ret
    exact ⟨grown_trans (grown_alloc w _ _) hg2 (fun k hk => .inl hk), .inl ⟨[i64 u], v', rfl, rfl, ho2, fun k hk => by
      rcases hf2 k hk with h | h
      · exact .inl h
      · exact .inr (by simp at h; omega)⟩⟩
  · by_cases h2 : kind = 2
    · subst h2
      have T := fun w => text_yes num u b w
      unfold Fd.val at T
      have HT := Lib.hid T
      clear T
      cases hp : packS b 0 with
      | none =>
        have hr : Hid (varsS ⟨num, 2, u, b⟩ = none) := Lib.hid (by simp [varsS, hp])
        have P := fun w => ppacked_any b w hb [] 3 (.inl ⟨hp, rfl, rfl⟩)
        have HP := Lib.hid P
        clear P hp
        go_enter Try.func73, Try.ntmps73
        go_wp2_with fail
        refine (HT.out _).mono ?_
        rintro e w1 ⟨rfl, hb1⟩
        have Hg1 := Lib.hid (grown_trans (grown_alloc w _ _) (grown_below hb1 v.ownBlock) (fun k hk => .inl hk))
        clear hb1
        go_wp2_with fail
        refine (HP.out _).mono ?_
        rintro e w2 ⟨A2, n2, c2, rfl, rfl, ho2, hb2⟩
        have Hg2 := Lib.hid (grown_trans Hg1.out (grown_below hb2 v.ownBlock) (fun k hk => .inl hk))
        clear hb2 ho2
        go_wp2_with fail
        refine (must_no _ _).mono ?_
        rintro e w3 ⟨rfl, rfl⟩
        exact ⟨rfl, vars_no Hg2.out hr.out⟩
      | some m =>
        have hr : Hid (varsS ⟨num, 2, u, b⟩ = some (m.map i64)) := Lib.hid (by simp [varsS, hp])
        have hml := pack_len b _ 0 m (Nat.le_refl _) hp
        have P := fun w => ppacked_any b w hb m 0 (.inr ⟨hp, rfl⟩)
        have HP := Lib.hid P
        clear P hp
        go_enter Try.func73, Try.ntmps73
        go_wp2_with fail
        refine (HT.out _).mono ?_
        rintro e w1 ⟨rfl, hb1⟩
        have z1 : w.heap.size < w1.heap.size := Nat.lt_of_lt_of_le (by simp) hb1.size
        have Ho1 := Lib.hid ((Ho.out.alloc (.cells #[.int .i64 num, .int .i64 2, .int .u64 u, .string b] 24)).below hb1)
        have Hg1 := Lib.hid (grown_trans (grown_alloc w _ _) (grown_below hb1 v.ownBlock) (fun k hk => .inl hk))
        clear hb1
        go_wp2_with fail
        refine (HP.out _).mono ?_
        rintro e w2 ⟨A2, n2, c2, rfl, rfl, ho2, hb2⟩
        have z2 := hb2.size
        have Ho2 := Lib.hid (Ho1.out.below hb2)
        have Hg2 := Lib.hid (grown_trans Hg1.out (grown_below hb2 v.ownBlock) (fun k hk => .inl hk))
        have hnb : 0 < m.length → ∃ g, A2 = some ⟨g, 0, none⟩ ∧ w1.heap.size ≤ g ∧ g < w2.heap.size := fun hn => by
          obtain ⟨g, cap, e, h1, h2⟩ := World.ownsRow.form ho2.1 hn
          simp only [Value.slice.injEq] at e
          exact ⟨g, e.1, h1, h2⟩
        have Hnb := Lib.hid hnb
        have P2 := Lib.hid (ho2.nums rfl)
        clear hb2 ho2 hnb
        go_wp2_with fail
        refine (must_yes _ _).mono ?_
        rintro e w3 ⟨rfl, rfl⟩
        go_wp2_with fail
        go_loopw [0, 8, 29] (fun x _ i wr => ∃ k : Nat, k ≤ m.length ∧ i = .int .i64 k ∧ OwnI wr B x (l ++ (m.take k).map i64) ∧ w2.grownBy wr v.ownBlock ∧ From v x w2.heap.size) (fun _ _ i _ => m.length - (intOf i).toNat)
        case atStart => exact ⟨0, by omega, rfl, by simpa using Ho2.out, World.grownBy.refl _ _, From.refl _ _⟩
        case round =>
          obtain ⟨k, hk, rfl, ho, hg, hf⟩ := hrel
          have Hg := Lib.hid hg
          have Hf := Lib.hid hf
          have Hor := Lib.hid ho
          have z3 := hg.size
          clear hg hf ho
          by_cases hlt : k < m.length
          · obtain ⟨g, rfl, hg1, hg2⟩ := Hnb.out (by omega)
            obtain ⟨b2, o2, e2, hb2, hc2⟩ := P2.out.at_ (by omega)
            simp only [Option.some.injEq, Addr.mk.injEq, and_true] at e2
            obtain ⟨rfl, rfl⟩ := e2
            obtain ⟨x, hx⟩ : ∃ x, m[k]? = some x := ⟨_, List.getElem?_eq_getElem hlt⟩
            have y0 : wr.cell? ⟨g, k, none⟩ = some (.int .u64 x) := by
              have h1 := hc2 k x hx
              rw [Nat.zero_add] at h1
              exact (World.cell?_of_block (a := ⟨g, k, none⟩) (Hg.out.block g hg2 fun e => by have := Hlt.out g e.symm; omega)).trans h1
            have Hx := Lib.hid hx
            clear hc2 hx
            have hlk : (l ++ (m.take k).map i64).length ≤ 33554432 := by simp; omega
            go_wp2_with (at_builtin; refine wpList_append_i1 wr _ rfl (.tmp 33) (.tmp 36) 45 rfl i0 _ rfl Try.underlying45 hi hz0 hz1 hz2 B _ _ rfl Hor.out wr.heap.size rfl rfl (by omega) (by have := Hg2.out.size; omega) ?_; intro v' w4 ho4 hg4 hf4)
            go_roundw
            case rel =>
              refine ⟨k + 1, by omega, by go_num, ?_, grown_trans Hg.out hg4 Hf.out, From.trans Hf.out hf4 z3⟩
              rw [List.take_add_one, Hx.out]
              simpa [i64] using ho4
            case measure => simp [intOf]; omega
          · obtain rfl : k = m.length := by omega
            rw [List.take_length] at Hor
            go_wp2
            go_ret
            exact ⟨grown_trans Hg2.out Hg.out (fun k hk => .inl hk), .inl ⟨_, _, hr.out, rfl, Hor.out, fun k hk => by
              rcases Hf.out k hk with h | h
              · exact .inl h
              · exact .inr (by omega)⟩⟩
    · have hr : Hid (varsS ⟨num, kind, u, b⟩ = none) := Lib.hid (by simp [varsS, h0, h2])
      have e0 : (kind == 0) = false := by simpa using h0
      have T := fun w => text_no num kind u b w h2
      unfold Fd.val at T
      go_enter Try.func73, Try.ntmps73
      go_wp2_with fail
      refine (T _).mono ?_
      rintro e w1 ⟨rfl, hb1⟩
      exact ⟨rfl, vars_no (grown_trans (grown_alloc w _ _) (grown_below hb1 v.ownBlock) (fun k hk => .inl hk)) hr.out⟩
end Go.Proofs.Ytkcnpnnflbibiaa
