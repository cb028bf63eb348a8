/- Slices of integers in memory: a slice that reads as a list; a slice that the call owns. The walks: counts. The walks: Same, Copy, Clone, spoil. -/
import Derived.Test.YtkcnpnnflbibiaaRows
import Derived.Test.YtkcnpnnflbibiaaZe
import Derived.Test.YtkcnpnnflbibiaaZb
import Derived.WalkKit
import Derived.WalkSpells
import Derived.WalkLawsBesides
import Derived.Lib.Hide
import Derived.Deep.QuietTactic
import Derived.BigQuiet
set_option linter.unusedVariables false
/- Slices of integers in memory: a slice that reads as a list; a slice that the call owns. -/
namespace Go.Proofs.Ytkcnpnnflbibiaa
open Go.RowKit

theorem Try.info3 : (Try.prog.info? 3).map (fun i => (i.zero, i.size, i.bytes)) = some (some (.int .i64 0), 1, 8) := by kernel_rfl

/-- The slice value '.slice A n c' reads as the list l in the world w, below block B. -/
structure Ints (w : World) (B : Nat) (A : Option Addr) (n : Nat) (l : List Int) : Prop where
  len : l.length = n
  small : n ≤ maxLen
  at_ : 0 < n → ∃ b off, A = some ⟨b, off, none⟩ ∧ b < B ∧ ∀ j, j < n → w.cell? ⟨b, off + j, none⟩ = some (.int .i64 (ix l j))

theorem Ints.get {w : World} {B n k : Nat} {A : Option Addr} {l : List Int} (h : Ints w B A n l) (hk : k < n) :
    ∃ b off, A = some ⟨b, off, none⟩ ∧ b < B ∧ w.cell? ⟨b, off + k, none⟩ = some (.int .i64 (ix l k)) := by
  obtain ⟨b, off, e, hb, hc⟩ := h.at_ (by omega)
  exact ⟨b, off, e, hb, hc k hk⟩
theorem Ints.keep {w w' : World} {B B' n : Nat} {A : Option Addr} {l : List Int} (h : Ints w B A n l) (hB : B ≤ B') (hk : ∀ p : Addr, p.block < B → w'.cell? p = w.cell? p) : Ints w' B' A n l :=
  ⟨h.len, h.small, fun hn => by
    obtain ⟨b, off, e, hb, hc⟩ := h.at_ hn
    exact ⟨b, off, e, by omega, fun j hj => (hk _ hb).trans (hc j hj)⟩⟩
theorem Ints.below {w w' : World} {B B' n : Nat} {A : Option Addr} {l : List Int} (h : Ints w B A n l) (hb : Below B w w') (hB : B ≤ B') : Ints w' B' A n l := h.keep hB fun _ hp => hb.cell hp
theorem Ints.more {w : World} {B B' n : Nat} {A : Option Addr} {l : List Int} (h : Ints w B A n l) (hB : B ≤ B') : Ints w B' A n l := h.keep hB fun _ _ => rfl
theorem Ints.int {w : World} {B n : Nat} {A : Option Addr} {l : List Int} (h : Ints w B A n l) : (n : Int) ≤ 9223372036854775807 := by
  have := h.small; unfold maxLen at this; omega
theorem Ints.nil_ {w : World} {B : Nat} {A : Option Addr} {l : List Int} (h : Ints w B A 0 l) : l = [] := List.eq_nil_of_length_eq_zero h.len

/-- The integers of a list as values. -/
def vals (l : List Int) : List Value := l.map (Value.int .i64)
theorem vals_length (l : List Int) : (vals l).length = l.length := by simp [vals]
theorem vals_get (l : List Int) (j : Nat) (h : j < l.length) : (vals l)[j]? = some (.int .i64 (ix l j)) := by
  simp [vals, ix, h]
theorem vals_set (l : List Int) (j : Nat) (x : Int) : (vals l).set j (.int .i64 x) = vals (l.set j x) := by simp [vals, List.map_set]
theorem vals_append (a b : List Int) : vals a ++ vals b = vals (a ++ b) := by simp [vals]
theorem vals_zeros (n : Nat) : (madeCells (Value.int .i64 0).cells (n * 1)).toList = vals (zeros n) := by
  show (madeCells #[Value.int .i64 0] (n * 1)).toList = _
  rw [toList_madeCells_one]; simp [vals, zeros]
theorem vals_one (l : List Int) : ∀ u ∈ vals l, u.oneCell' = true := ints_oneCell _ _

theorem _root_.Go.World.ownsRow.mono_ {w : World} {B B' : Nat} {e : TypeId} {size : Nat} {v : Value} {n : Nat} {xs : List Value} (h : w.ownsRow B e size v n xs) (hB : B' ≤ B) : w.ownsRow B' e size v n xs := by
  refine ⟨h.1, ?_⟩
  rcases h.2 with h | ⟨g, cap, cur, e1, hb, r⟩
  · exact .inl h
  · exact .inr ⟨g, cap, cur, e1, by omega, r⟩
/-- The call's own slice of integers: its blocks lie from B on. -/
def Own (w : World) (B : Nat) (v : Value) (l : List Int) : Prop := w.ownsRow B 3 1 v l.length (vals l) ∧ l.length ≤ maxLen
theorem Own.form {w : World} {B : Nat} {v : Value} {l : List Int} (h : Own w B v l) : ∃ A c, v = .slice A l.length c := by
  rcases h.1.2 with ⟨rfl, hn⟩ | ⟨g, cap, cur, rfl, _⟩
  · exact ⟨none, 0, by rw [hn]⟩
  · exact ⟨_, _, rfl⟩
theorem Own.cap {w : World} {B n c : Nat} {A : Option Addr} {l : List Int} (h : Own w B (.slice A n c) l) (hn : n = l.length) : n ≤ c := by
  rcases h.1.2 with ⟨e, h0⟩ | ⟨g, cap, cur, e, _, _, hc, _⟩
  · simp at e; omega
  · simp at e; omega
theorem Own.form2 {w : World} {B : Nat} {v : Value} {l : List Int} (h : Own w B v l) {n : Nat} (hn : l.length = n) : ∃ A m c, v = .slice A m c ∧ Hid (m = l.length) ∧ m ≤ n ∧ n ≤ m := by
  obtain ⟨A, c, rfl⟩ := h.form
  exact ⟨A, l.length, c, rfl, rfl, by omega, by omega⟩
theorem Own.ints {w : World} {B c n : Nat} {A : Option Addr} {l : List Int} (h : Own w B (.slice A n c) l) (hn : n = l.length) : Ints w w.heap.size A n l := by
  subst hn
  refine ⟨rfl, h.2, fun hn => ?_⟩
  rcases h.1.2 with ⟨_, h0⟩ | ⟨g, cap, cur, e, _, hg, _⟩
  · omega
  · simp only [Value.slice.injEq] at e
    obtain ⟨rfl, _, rfl⟩ := e
    refine ⟨g, 0, rfl, (Array.getElem?_eq_some_iff.1 hg).1, fun j hj => ?_⟩
    rw [Nat.zero_add, h.1.cellAt j (by omega), vals_get l j hj]
theorem Own.drewN {w : World} {B : Nat} {v : Value} {l : List Int} (h : Own w B v l) (q : Nat) : Own (w.drewN q) B v l := ⟨h.1, h.2⟩


/-- Appending what reads as m to what the call owns as l: nil sources and nil targets too. -/
theorem run_append_ints {P : Program} (w : World) (t ty : TypeId) (i : TypeInfo) (ht : P.underlying t = some (.slice 3)) (hi : P.info? 3 = some i) (hz : i.zero = some (.int .i64 0)) (hsize : i.size = 1) (hby : i.bytes = 8)
    (B : Nat) (v : Value) (l : List Int) (hown : Own w B v l) (B' : Nat) (A : Option Addr) (n c : Nat) (m : List Int) (hr : Ints w B' A n m)
    (hbytes : (l.length + n) * 8 ≤ 140737488355328) (hbase : B ≤ w.heap.size) :
    ∃ v' w', (Builtin.append_ #[t, t] ty #[v, .slice A n c]).run P w = .ok v' w' ∧ Own w' B v' (l ++ m) ∧ w.grownBy w' v.ownBlock := by
  have h63 : l.length + n ≤ maxLen := by unfold maxLen; omega
  have hlen := hr.len
  cases A with
  | none =>
    have hm : n = 0 := by
      rcases Nat.eq_zero_or_pos n with h0 | h0
      · exact h0
      · obtain ⟨b, o, e, _⟩ := hr.at_ h0
        cases e
    subst hm
    have hn : m = [] := List.eq_nil_of_length_eq_zero hlen
    subst hn
    refine ⟨v, w, ?_, by simpa using hown, World.grownBy.refl w _⟩
    rcases hown.1.2 with ⟨rfl, _⟩ | ⟨g, cap, cur, rfl, _, _, hnc, _⟩
    · simp [Builtin.append_, run_underlying ht, sizeOf, typeInfo, hi, Builtin.lenOf, Builtin.firstCells]
    · simp [Builtin.append_, run_underlying ht, sizeOf, typeInfo, hi, Builtin.lenOf, Builtin.firstCells, hnc, storeCells]
  | some ad =>
    have hcells : ∀ j u, (vals m)[j]? = some u → w.cell? (ad.add j) = some u := by
      intro j u hu
      have hj : j < m.length := by
        rcases Nat.lt_or_ge j m.length with h | h
        · exact h
        · rw [List.getElem?_eq_none (by rw [vals_length]; exact h)] at hu; cases hu
      obtain ⟨b, o, e, _, hc⟩ := hr.at_ (by omega)
      injection e with e
      subst e
      rw [vals_get m j hj] at hu
      injection hu with hu
      subst hu
      rw [← hc j (by omega)]
      congr 1
      unfold Addr.add
      split
      · next h => simp_all
      · rfl
    obtain ⟨v', w', hrun, h2, h3, _⟩ := run_append_own (P := P) w B t ty 3 i (.int .i64 0) 1 8 ht hi hz hsize hby rfl (by omega) v l.length (vals l) hown.1 ad n c (vals m) (by rw [vals_length]; omega) hcells (vals_one m) h63 hbytes hbase
    refine ⟨v', w', hrun, ⟨?_, by simp; omega⟩, h3⟩
    rw [vals_append] at h2
    rw [List.length_append, hlen]
    exact h2

theorem wpList_append_ints {P : Program} (w : World) {ops : Array Oper} {rest : List Oper} {o : Oper} {a : Act} {Q : Exit → Act → World → Prop} (hgd : o.guard = none) (s x : Operand) (t : TypeId)
    (ho : o.op = .call { callee := .builtin .append, args := #[s, x], argTypes := #[t, t] })
    (i : TypeInfo) (ht : P.underlying t = some (.slice 3)) (hi : P.info? 3 = some i) (hz : i.zero = some (.int .i64 0)) (hsize : i.size = 1) (hby : i.bytes = 8)
    (B : Nat) (v : Value) (l : List Int) (hs : a.eval s = v) (hown : Own w B v l) (B' : Nat) (A : Option Addr) (n c : Nat) (m : List Int) (hx : a.eval x = .slice A n c) (hr : Ints w B' A n m)
    (hbytes : (l.length + n) * 8 ≤ 140737488355328) (hbase : B ≤ w.heap.size)
    (h : ∀ v' w', Own w' B v' (l ++ m) → w.grownBy w' v.ownBlock → wpList P ops Q rest (a.put o.dst v') w') : wpList P ops Q (o :: rest) a w :=
  wpList_plain hgd fun _ hK => by
    obtain ⟨v', w', hrun, h2, h3⟩ := run_append_ints (P := P) w t o.type i ht hi hz hsize hby B v l hown B' A n c m hr hbytes hbase
    unfold Oper.wp execOp
    simp only [ho, resolve, invoke, builtin, Sem.run_bind, Sem.run_pure, Result.andThen_ok, List.map_toArray, List.map_cons, List.map_nil, hs, hx, hrun]
    exact hK _ _ (h v' w' h2 h3)

theorem own_nil (w : World) (B : Nat) : Own w B (.slice none 0 0) [] := ⟨World.ownsRow_nil _ _ _ _, Nat.zero_le _⟩
theorem Own.belowGrown {a w w' : World} {B : Nat} {v : Value} {l : List Int} (h : Own w B v l) (hb : Below B a w) (hg : w.grownBy w' v.ownBlock) (hB : B ≤ w.heap.size) : Below B a w' :=
  hb.grown hg hB fun k hk => (h.1.lt k hk).1
theorem own_made (w : World) (B n : Nat) (hB : B ≤ w.heap.size) (hn : n ≤ maxLen) : Own (w.alloc (.cells (madeCells (Value.int .i64 0).cells (n * 1)) 3)) B (.slice (some ⟨w.heap.size, 0, none⟩) n n) (zeros n) := by
  have h := World.ownsRow_lit (base := B) (e := 3) (size := 1) w (madeCells (Value.int .i64 0).cells (n * 1)) n hB hn (by rw [size_madeCells])
  rw [vals_zeros] at h
  exact ⟨by rw [zeros_length]; exact h, by rw [zeros_length]; exact hn⟩
theorem Own.below {w w' : World} {B : Nat} {v : Value} {l : List Int} (h : Own w B v l) (hb : Below w.heap.size w w') : Own w' B v l := by
  refine ⟨⟨h.1.1, ?_⟩, h.2⟩
  rcases h.1.2 with h1 | ⟨g, cap, cur, e, hB, hg, r⟩
  · exact .inl h1
  · exact .inr ⟨g, cap, cur, e, hB, (hb.block g (Array.getElem?_eq_some_iff.1 hg).1).trans hg, r⟩
theorem own_lit (w : World) (B : Nat) (l : List Int) (hB : B ≤ w.heap.size) (hn : l.length ≤ maxLen) : Own (w.alloc (.cells (vals l).toArray 3)) B (.slice (some ⟨w.heap.size, 0, none⟩) l.length l.length) l := by
  have h := World.ownsRow_lit (base := B) (e := 3) (size := 1) w (vals l).toArray l.length hB hn (by simp [vals])
  exact ⟨h, hn⟩
theorem Ints.alloc {w : World} {B n : Nat} {A : Option Addr} {l : List Int} (h : Ints w B A n l) (hB : B ≤ w.heap.size) (o : Obj) : Ints (w.alloc o) B A n l :=
  h.keep (Nat.le_refl _) fun p hp => World.cell?_alloc_lt w o p (by omega)
/-- The row that make lays. -/
def zrow (n : Nat) : Array Value := (madeCells (Value.int .i64 0).cells (n * 1))
theorem own_zrow (w : World) (B n : Nat) (hB : B ≤ w.heap.size) (hn : n ≤ maxLen) : Own (w.alloc (.cells (zrow n) 3)) B (.slice (some ⟨w.heap.size, 0, none⟩) n n) (zeros n) := own_made w B n hB hn
theorem run_make_ints (n : Nat) (hn : n * 8 ≤ 140737488355328) (w : World) : (Instr.makeSlice 44 (.int .i64 (n : Int)) (.int .i64 (n : Int))).run Try.prog w = .ok (.slice (some ⟨w.heap.size, 0, none⟩) n n) (w.alloc (.cells (zrow n) 3)) := by
  obtain ⟨i0, hi, hz0, hz1, hz2⟩ := info_parts Try.info3
  have h := run_make (P := Try.prog) w 44 3 i0 (.int .i64 0) Try.underlying44 hi hz0 .i64 .i64 n n (by omega) (by omega) (by rw [hz2]; omega) (by omega)
  rw [h, hz1]
  rfl
/-- A cut: 'l[k:]'. -/
theorem Ints.cut {w : World} {B n b off : Nat} {l : List Int} (h : Ints w B (some ⟨b, off, none⟩) n l) (k : Nat) : Ints w B (some ⟨b, off + k, none⟩) (n - k) (l.drop k) := by
  refine ⟨by rw [List.length_drop, h.len], by have := h.small; omega, fun hn => ?_⟩
  obtain ⟨b', o', e, hb, hc⟩ := h.at_ (by omega)
  simp only [Option.some.injEq, Addr.mk.injEq, and_true] at e
  obtain ⟨rfl, rfl⟩ := e
  refine ⟨b, off + k, rfl, hb, fun j hj => ?_⟩
  rw [Nat.add_assoc, hc (k + j) (by omega), ix_drop]
/-- A cut: 'l[:k]'. -/
theorem Ints.head {w : World} {B n : Nat} {A : Option Addr} {l : List Int} (h : Ints w B A n l) (k : Nat) (hk : k ≤ n) : Ints w B A k (l.take k) := by
  refine ⟨by rw [List.length_take, h.len]; omega, by have := h.small; omega, fun hn => ?_⟩
  obtain ⟨b, o, e, hb, hc⟩ := h.at_ (by omega)
  exact ⟨b, o, e, hb, fun j hj => by rw [hc j (by omega), ix_take _ _ _ hj]⟩
theorem Ints.drewN {w : World} {B n : Nat} {A : Option Addr} {l : List Int} (h : Ints w B A n l) (q : Nat) : Ints (w.drewN q) B A n l := h.keep (Nat.le_refl _) fun _ _ => rfl
theorem Ints.drew {w : World} {B n : Nat} {A : Option Addr} {l : List Int} (h : Ints w B A n l) : Ints w.drew B A n l := h.keep (Nat.le_refl _) fun _ _ => rfl
theorem Ints.end_ {w : World} {B n : Nat} {A A' : Option Addr} {l : List Int} (h : Ints w B A n l) (k : Nat) (hk : n ≤ k) : Ints w B A' (n - k) (l.drop k) :=
  ⟨by rw [List.length_drop, h.len], by have := h.small; omega, fun hn => absurd hn (by omega)⟩
theorem Own.set_ {w : World} {B g n c : Nat} {l : List Int} (h : Own w B (.slice (some ⟨g, 0, none⟩) n c) l) (hn : n = l.length) (j : Nat) (x : Int) :
    Own (w.setCell ⟨g, j, none⟩ (.int .i64 x)) B (.slice (some ⟨g, 0, none⟩) n c) (l.set j x) := by
  subst hn
  have h1 := (h.1.stored j (.int .i64 x)).1
  rw [vals_set] at h1
  exact ⟨by rw [List.length_set]; exact h1, by rw [List.length_set]; exact h.2⟩
theorem Own.base {w : World} {B g n c : Nat} {l : List Int} (h : Own w B (.slice (some ⟨g, 0, none⟩) n c) l) : B ≤ g := (h.1.lt g rfl).1
theorem Own.read {w : World} {B g n c : Nat} {l : List Int} (h : Own w B (.slice (some ⟨g, 0, none⟩) n c) l) (hn : n = l.length) (j : Nat) (hj : j < n) :
    w.cell? ⟨g, j, none⟩ = some (.int .i64 (ix l j)) ∧ w.frozen? ⟨g, j, none⟩ = false := by
  subst hn
  exact ⟨by rw [h.1.cellAt j (by omega), vals_get l j hj], h.1.frozenAt j⟩
theorem Own.drew {w : World} {B : Nat} {v : Value} {l : List Int} (h : Own w B v l) : Own w.drew B v l := ⟨h.1, h.2⟩

/-- The same world but for draws. -/
def Dn (w w' : World) : Prop := ∃ q, w' = w.drewN q
theorem Dn.refl (w : World) : Dn w w := ⟨0, rfl⟩
theorem Dn.drewN {w w' : World} (h : Dn w w') (q : Nat) : Dn w (w'.drewN q) := by obtain ⟨p, rfl⟩ := h; exact ⟨p + q, World.drewN_drewN _ _ _⟩
theorem Dn.below {w w' : World} (h : Dn w w') (B : Nat) : Below B w w' := by obtain ⟨p, rfl⟩ := h; exact below_drewN (Below.refl _ _) p
/-- What a call leaves that hands back a number and an error. -/
def Num (w : World) (n err : Int) (e : Ending) (w' : World) : Prop := e = .returned (.tuple #[.int .i64 n, .int .i64 err]) ∧ Below w.heap.size w w'
/-- What a call leaves that hands back a list of its own and an error. -/
def Lst (w : World) (l : List Int) (err : Int) (e : Ending) (w' : World) : Prop :=
  ∃ A n c, e = .returned (.tuple #[.slice A n c, .int .i64 err]) ∧ n = l.length ∧ Own w' w.heap.size (.slice A n c) l ∧ Below w.heap.size w w'
/-- What a call leaves that hands back a bool. -/
def Bol (w : World) (b : Bool) (e : Ending) (w' : World) : Prop := e = .returned (.bool b) ∧ Below w.heap.size w w'

end Go.Proofs.Ytkcnpnnflbibiaa

/- The walks: counts. -/
namespace Go.Proofs.Ytkcnpnnflbibiaa
open Go.RowKit

set_option maxHeartbeats 400000 in
theorem neg_any (a : Int) (w : World) :
    Calls Try.prog 68 #[.int .i64 a] w fun e w' => e = .returned (.bool (decide (a < 1))) ∧ w = w' := by
  go_enter Try.func68, Try.ntmps68
  go_wp2
  go_ret
  exact ⟨rfl, rfl⟩
theorem neg_yes (a : Int) (w : World) (h : a < 1) :
    Calls Try.prog 68 #[.int .i64 a] w fun e w' => e = .returned (.bool true) ∧ w = w' := by
  refine (neg_any a w).mono ?_; rintro e w' ⟨rfl, rfl⟩; exact ⟨by simp [h], rfl⟩
theorem neg_no (a : Int) (w : World) (h : ¬ a < 1) :
    Calls Try.prog 68 #[.int .i64 a] w fun e w' => e = .returned (.bool false) ∧ w = w' := by
  refine (neg_any a w).mono ?_; rintro e w' ⟨rfl, rfl⟩; exact ⟨by simp <;> omega, rfl⟩

def IdxPost (l : List Int) (w : World) (e : Ending) (w' : World) : Prop := ∃ i : Int, e = .returned (.int .i64 i) ∧ ((0 ≤ i ∧ ¬ Pos l) ∨ (i < 0 ∧ Pos l)) ∧ w = w'

set_option maxHeartbeats 400000 in
theorem idx_any (w : World) (B : Nat) (A : Option Addr) (n c : Nat) (l : List Int) (h : Ints w B A n l) :
    Calls Try.prog 83 #[.slice A n c, .func (.func 68) #[] #[]] w (IdxPost l w) := by
  have hm : n ≤ 9223372036854775807 := h.small
  go_enter Try.func83, Try.ntmps83
  go_wp2_with fail
  go_loop [8] (fun i => ∃ k : Nat, k ≤ n ∧ i = .int .i64 k ∧ ∀ j, j < k → 1 ≤ ix l j) (fun i => n - (intOf i).toNat)
  case atStart => exact ⟨0, Nat.zero_le _, rfl, fun j hj => absurd hj (by omega)⟩
  case round =>
    obtain ⟨k, hk, rfl, hall⟩ := hrel
    have Hall := Lib.hid hall
    clear hall
    by_cases hlt : k < n
    · obtain ⟨b, off, rfl, hb, hc⟩ := h.get hlt
      by_cases h1 : ix l k < 1
      · go_wp2_with (go_at_call 68; refine (neg_yes _ _ h1).mono ?_; rintro e w' ⟨rfl, rfl⟩)
        go_ret
        exact ⟨_, rfl, .inl ⟨by omega, fun hp => by have := pos_ix hp k (by rw [h.len]; exact hlt); omega⟩, rfl⟩
      · go_wp2_with (go_at_call 68; refine (neg_no _ _ h1).mono ?_; rintro e w' ⟨rfl, rfl⟩)
        go_round
        case rel => exact ⟨k + 1, by omega, by go_num, fun j hj => by
          by_cases e : j = k
          · subst e; omega
          · exact Hall.out j (by omega)⟩
        case measure => simp [intOf]; omega
    · go_wp2
      go_ret
      exact ⟨_, rfl, .inr ⟨by omega, pos_of_ix fun j hj => Hall.out j (by rw [h.len] at hj; omega)⟩, rfl⟩

set_option maxHeartbeats 400000 in
theorem has_no (w : World) (B : Nat) (A : Option Addr) (n c : Nat) (l : List Int) (h : Ints w B A n l) (hp : Pos l) :
    Calls Try.prog 67 #[.slice A n c, .func (.func 68) #[] #[]] w fun e w' => e = .returned (.bool false) ∧ w = w' := by
  have Hp := Lib.hid hp
  clear hp
  go_enter Try.func67, Try.ntmps67
  go_wp2_with fail
  refine (idx_any w B A n c l h).mono ?_
  rintro e w' ⟨i, rfl, hi, rfl⟩
  have hi' : i < 0 := by
    rcases hi with ⟨_, h2⟩ | ⟨h1, _⟩
    · exact absurd Hp.out h2
    · exact h1
  clear hi
  go_wp2
  go_ret
  exact ⟨by simp <;> omega, rfl⟩
set_option maxHeartbeats 400000 in
theorem has_yes (w : World) (B : Nat) (A : Option Addr) (n c : Nat) (l : List Int) (h : Ints w B A n l) (hp : ¬ Pos l) :
    Calls Try.prog 67 #[.slice A n c, .func (.func 68) #[] #[]] w fun e w' => e = .returned (.bool true) ∧ w = w' := by
  have Hp := Lib.hid hp
  clear hp
  go_enter Try.func67, Try.ntmps67
  go_wp2_with fail
  refine (idx_any w B A n c l h).mono ?_
  rintro e w' ⟨i, rfl, hi, rfl⟩
  have hi' : 0 ≤ i := by
    rcases hi with ⟨h1, _⟩ | ⟨_, h2⟩
    · exact h1
    · exact absurd h2 Hp.out
  clear hi
  go_wp2
  go_ret
  exact ⟨by simp <;> omega, rfl⟩

theorem div_gt {d q : Int} (hq : 1 ≤ q) : 65536 / q < d ↔ 65536 < q * d := by
  rw [Int.ediv_lt_iff_lt_mul (by omega), Int.mul_comm]
theorem two_ret {x y a b : Int} (h : x = a ∧ y = b) : Ending.returned (.tuple #[.int .i64 a, .int .i64 b]) = .returned (.tuple #[.int .i64 x, .int .i64 y]) := by
  rw [h.1, h.2]
theorem CountIs.same {l : List Int} {x y a b : Int} (h : CountIs l x a) (g : CountIs l y b) : x = y ∧ a = b := by
  obtain ⟨h1, h2⟩ := h
  obtain ⟨g1, g2⟩ := g
  have e : a = b := h1.symm.trans g1
  exact ⟨by rw [h2, g2, e], e⟩

set_option maxHeartbeats 800000 in
theorem count_any (w : World) (B : Nat) (A : Option Addr) (n c : Nat) (l : List Int) (h : Ints w B A n l) (x err : Int) (hx : CountIs l x err) :
    Calls Try.prog 45 #[.slice A n c] w fun e w' => e = .returned (.tuple #[.int .i64 x, .int .i64 err]) ∧ w = w' := by
  have hm : n ≤ 9223372036854775807 := h.small
  have hl := h.len
  have Hl := Lib.hid hl
  clear hl
  have Hx := Lib.hid hx
  clear hx
  by_cases hp : Pos l
  case neg =>
    go_enter Try.func45, Try.ntmps45
    go_wp2_with (go_at_call 67; refine (has_yes w B A n c l h hp).mono ?_; rintro e w' ⟨rfl, rfl⟩)
    go_ret2
    exact ⟨two_ret (Hx.out.same (countIs_4 hp)), rfl⟩
  case pos =>
    by_cases h6 : 6 < n
    · go_enter Try.func45, Try.ntmps45
      go_wp2_with (go_at_call 67; refine (has_no w B A n c l h hp).mono ?_; rintro e w' ⟨rfl, rfl⟩)
      go_ret2
      exact ⟨two_ret (Hx.out.same (countIs_6 hp (.inl (by rw [Hl.out]; exact h6)))), rfl⟩
    · go_enter Try.func45, Try.ntmps45
      go_wp2_with (go_at_call 67; refine (has_no w B A n c l h hp).mono ?_; rintro e w' ⟨rfl, rfl⟩)
      go_loop [4, 14] (fun p i => ∃ k : Nat, k ≤ n ∧ i = .int .i64 k ∧ p = .int .i64 (prod (l.take k)) ∧ prod (l.take k) ≤ 65536) (fun _ i => n - (intOf i).toNat)
      case atStart => exact ⟨0, Nat.zero_le _, rfl, rfl, by simp [prod]⟩
      case round =>
        obtain ⟨k, hk, rfl, rfl, hq⟩ := hrel
        have hq1 := prod_pos (pos_take hp k)
        by_cases hlt : k < n
        · obtain ⟨b, off, rfl, hb, hc⟩ := h.get hlt
          have hd1 := pos_ix hp k (by rw [Hl.out]; exact hlt)
          have hs := Lib.hid (prod_take_succ l k (by rw [Hl.out]; exact hlt))
          have hle := prod_take_le hp (k + 1)
          have Hle := Lib.hid hle
          clear hle
          by_cases hgt : 65536 / prod (l.take k) < ix l k
          · have hbig := (div_gt hq1).1 hgt
            go_wp2
            go_ret2
            exact ⟨two_ret (Hx.out.same (countIs_6 hp (.inr (by have := Hle.out; rw [hs.out] at this; omega)))), rfl⟩
          · have hsm : prod (l.take k) * ix l k ≤ 65536 := by
              have := mt (div_gt hq1).2 hgt; omega
            have hnn : 0 ≤ prod (l.take k) * ix l k := Int.mul_nonneg (by omega) (by omega)
            go_wp2
            go_round
            case rel => exact ⟨k + 1, by omega, by go_num, by rw [hs.out], by rw [hs.out]; exact hsm⟩
            case measure => simp [intOf]; omega
        · have e : k = n := by omega
          have hg : Good l := ⟨hp, by rw [Hl.out]; omega, by
            have := hq; rw [e, List.take_of_length_le (by rw [Hl.out]; omega)] at this; exact this⟩
          have Hq := Lib.hid (show prod (l.take k) = prod l by rw [List.take_of_length_le (by rw [Hl.out]; omega)])
          clear e
          go_wp2
          go_ret2
          exact ⟨two_ret (by rw [Hq.out]; exact Hx.out.same (countIs_good hg)), rfl⟩

set_option maxHeartbeats 800000 in
theorem rcount_any (w : World) (B : Nat) (A : Option Addr) (n c : Nat) (l : List Int) (h : Ints w B A n l) (x err : Int) (hx : CountIs l x err) :
    Calls Try.prog 42 #[.slice A n c] w fun e w' => e = .returned (.tuple #[.int .i64 x, .int .i64 err]) ∧ w = w' := by
  have hm : n ≤ 9223372036854775807 := h.small
  have hl := h.len
  have Hl := Lib.hid hl
  clear hl
  have Hx := Lib.hid hx
  clear hx
  go_enter Try.func42, Try.ntmps42
  go_wp2_with fail
  go_loop [4] (fun i => ∃ k : Nat, k ≤ n ∧ i = .int .i64 k ∧ ∀ j, j < k → 1 ≤ ix l j) (fun i => n - (intOf i).toNat)
  case atStart => exact ⟨0, Nat.zero_le _, rfl, fun j hj => absurd hj (by omega)⟩
  case round =>
    obtain ⟨k, hk, rfl, hall⟩ := hrel
    have Hall := Lib.hid hall
    clear hall
    by_cases hlt : k < n
    · obtain ⟨b, off, rfl, hb, hc⟩ := h.get hlt
      by_cases h1 : ix l k < 1
      · go_wp2
        go_ret2
        exact ⟨two_ret (Hx.out.same (countIs_4 fun hp => by have := pos_ix hp k (by rw [Hl.out]; exact hlt); omega)), rfl⟩
      · go_wp2
        go_round
        case rel => exact ⟨k + 1, by omega, by go_num, fun j hj => by
          by_cases e : j = k
          · subst e; omega
          · exact Hall.out j (by omega)⟩
        case measure => simp [intOf]; omega
    · have hp := Lib.hid (show Pos l from pos_of_ix fun j hj => Hall.out j (by rw [Hl.out] at hj; omega))
      by_cases h6 : 6 < n
      · go_wp2
        go_ret2
        exact ⟨two_ret (Hx.out.same (countIs_6 hp.out (.inl (by rw [Hl.out]; exact h6)))), rfl⟩
      · clear Hall
        go_wp2_with fail
        clear hlt hk
        go_loop [5, 6] (fun p i => ∃ k : Nat, k ≤ n ∧ i = .int .i64 k ∧ p = .int .i64 (prod (l.take k)) ∧ prod (l.take k) ≤ 65536) (fun _ i => n - (intOf i).toNat)
        case atStart => exact ⟨0, Nat.zero_le _, rfl, rfl, by simp [prod]⟩
        case round =>
          obtain ⟨k, hk, rfl, rfl, hq⟩ := hrel
          have hq1 := prod_pos (pos_take hp.out k)
          by_cases hlt : k < n
          · obtain ⟨b, off, rfl, hb, hc⟩ := h.get hlt
            have hd1 := pos_ix hp.out k (by rw [Hl.out]; exact hlt)
            have hs := Lib.hid (prod_take_succ l k (by rw [Hl.out]; exact hlt))
            have Hle := Lib.hid (prod_take_le hp.out (k + 1))
            by_cases hgt : 65536 < ix l k
            · have hbig : ix l k ≤ prod (l.take k) * ix l k := le_pos_mul (by omega) hq1
              go_wp2
              go_ret2
              exact ⟨two_ret (Hx.out.same (countIs_6 hp.out (.inr (by have := Hle.out; rw [hs.out] at this; omega)))), rfl⟩
            · have hnn : 0 ≤ prod (l.take k) * ix l k := Int.mul_nonneg (by omega) (by omega)
              have hub : prod (l.take k) * ix l k ≤ 65536 * 65536 := Int.mul_le_mul hq (by omega) (by omega) (by omega)
              by_cases hbg : 65536 < prod (l.take k) * ix l k
              · go_wp2
                go_ret2
                exact ⟨two_ret (Hx.out.same (countIs_6 hp.out (.inr (by have := Hle.out; rw [hs.out] at this; omega)))), rfl⟩
              · go_wp2
                go_round
                case rel => exact ⟨k + 1, by omega, by go_num, by rw [hs.out], by rw [hs.out]; omega⟩
                case measure => simp [intOf]; omega
          · have e : k = n := by omega
            have hg : Good l := ⟨hp.out, by rw [Hl.out]; omega, by
              have := hq; rw [e, List.take_of_length_le (by rw [Hl.out]; omega)] at this; exact this⟩
            have Hq := Lib.hid (show prod (l.take k) = prod l by rw [List.take_of_length_le (by rw [Hl.out]; omega)])
            clear e
            go_wp2
            go_ret2
            exact ⟨two_ret (by rw [Hq.out]; exact Hx.out.same (countIs_good hg)), rfl⟩
end Go.Proofs.Ytkcnpnnflbibiaa

/- The walks: Same, Copy, Clone, spoil. -/
namespace Go.Proofs.Ytkcnpnnflbibiaa
open Go.RowKit

theorem bol_ret {a b : Bool} (h : b = a) : Ending.returned (.bool a) = .returned (.bool b) := by rw [h]
theorem eq_of_ix {n : Nat} {l m : List Int} (hl : l.length = n) (hm : m.length = n) (h : ∀ j, j < n → ix l j = ix m j) : l = m :=
  ext_ix (by omega) fun j hj => h j (by omega)

set_option maxHeartbeats 800000 in
theorem same_any (w : World) (B B' : Nat) (A A' : Option Addr) (n c n' c' : Nat) (l m : List Int) (h : Ints w B A n l) (g : Ints w B' A' n' m) (b : Bool) (hb : b = decide (l = m)) :
    Calls Try.prog 59 #[.slice A n c, .slice A' n' c'] w fun e w' => e = .returned (.bool b) ∧ Dn w w' := by
  have hm : n ≤ 9223372036854775807 := h.small
  have gm : n' ≤ 9223372036854775807 := g.small
  have Hl := Lib.hid h.len
  have Gl := Lib.hid g.len
  have Hb := Lib.hid hb
  clear hb
  by_cases hn : n = n'
  case neg =>
    have hne : ((n : Int) == n') = false := by simp; omega
    have hne' : ((n : Int) != n') = true := by simp; omega
    go_enter Try.func59, Try.ntmps59
    go_wp2
    go_ret
    exact ⟨bol_ret (by rw [Hb.out]; simp; intro e; rw [e, Gl.out] at Hl; exact hn Hl.out.symm), 0, rfl⟩
  case pos =>
    subst hn
    go_enter Try.func59, Try.ntmps59
    go_wp2_with fail
    go_loopw [5] (fun i wr => ∃ k : Nat, k ≤ n ∧ i = .int .i64 k ∧ (∀ j, j < k → ix l j = ix m j) ∧ ∃ q, wr = w.drewN q) (fun i _ => n - (intOf i).toNat)
    case atStart => exact ⟨0, Nat.zero_le _, rfl, fun j hj => absurd hj (by omega), 0, rfl⟩
    case round =>
      obtain ⟨k, hk, rfl, hall, q, rfl⟩ := hrel
      have Hall := Lib.hid hall
      clear hall
      by_cases hlt : k < n
      · obtain ⟨b1, off1, rfl, hb1, hc1⟩ := h.get hlt
        obtain ⟨b2, off2, rfl, hb2, hc2⟩ := g.get hlt
        by_cases he : ix l k = ix m k
        · have he' : (ix l k != ix m k) = false := by simp [he]
          have He := Lib.hid he
          clear he
          go_wp2
          go_quiet (fail)
          go_wp2
          go_roundw
          case rel => exact ⟨k + 1, by omega, by go_num, fun j hj => by
            by_cases e : j = k
            · rw [e]; exact He.out
            · exact Hall.out j (by omega), _, rfl⟩
          case measure => simp [intOf]; omega
        · have he' : (ix l k != ix m k) = true := by simp [he]
          go_wp2
          go_quiet (fail)
          go_wp2
          go_ret
          exact ⟨bol_ret (by rw [Hb.out]; simp; intro e; rw [e] at he; exact he rfl), _, World.drewN_drewN _ _ _⟩
      · go_wp2
        go_ret
        exact ⟨bol_ret (by rw [Hb.out]; simp; exact eq_of_ix Hl.out Gl.out fun j hj => Hall.out j (by omega)), q, rfl⟩

set_option maxHeartbeats 400000 in
theorem copy_any (w : World) (B : Nat) (A : Option Addr) (n c : Nat) (l : List Int) (h : Ints w B A n l) (hr : n * 8 ≤ 140737488351232) :
    Calls Try.prog 61 #[.slice A n c] w fun e w' => ∃ v, e = .returned v ∧ Own w' w.heap.size v l ∧ Below w.heap.size w w' := by
  obtain ⟨i0, hi, hz0, hz1, hz2⟩ := info_parts Try.info3
  go_enter Try.func61, Try.ntmps61
  go_wp2_with (at_builtin; refine wpList_append_ints _ rfl _ _ 44 rfl i0 Try.underlying44 hi hz0 hz1 hz2 w.heap.size _ [] rfl (own_nil _ _) B A n c l rfl h (by simp; omega) (Nat.le_refl _) ?_; intro v' w1 hown hgrow)
  go_ret
  exact ⟨_, rfl, hown, (own_nil w _).belowGrown (Below.refl _ _) hgrow (Nat.le_refl _)⟩

end Go.Proofs.Ytkcnpnnflbibiaa
