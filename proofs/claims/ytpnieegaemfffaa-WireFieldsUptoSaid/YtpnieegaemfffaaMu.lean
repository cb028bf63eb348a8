/- Lists of numbers in memory. -/
import Derived.Test.YtpnieegaemfffaaWk
namespace Go.Proofs.Ytpnieegaemfffaa
open Go.RowKit

theorem Try.info22 : (Try.prog.info? 22).map (fun i => (i.zero, i.size, i.bytes)) = some (some (.int .u64 0), 1, 8) := by kernel_rfl
def numVals (l : List Int) : List Value := l.map (Value.int .u64)
theorem numVals_get (l : List Int) (j : Nat) (x : Int) (h : l[j]? = some x) : (numVals l)[j]? = some (.int .u64 x) := by simp [numVals, h]
/-- The slice value '.slice A n c' reads as the numbers l in the world w, below block B. -/
structure Nums (w : World) (B : Nat) (A : Option Addr) (n : Nat) (l : List Int) : Prop where
  len : l.length = n
  small : n ≤ maxLen
  at_ : 0 < n → ∃ b off, A = some ⟨b, off, none⟩ ∧ b < B ∧ ∀ j x, l[j]? = some x → w.cell? ⟨b, off + j, none⟩ = some (.int .u64 x)
theorem Nums.keep {w w' : World} {B B' n : Nat} {A : Option Addr} {l : List Int} (h : Nums w B A n l) (hB : B ≤ B') (hk : ∀ p : Addr, p.block < B → w'.cell? p = w.cell? p) : Nums w' B' A n l :=
  ⟨h.len, h.small, fun hn => by
    obtain ⟨b, off, e, hb, hc⟩ := h.at_ hn
    exact ⟨b, off, e, by omega, fun j x hj => (hk _ hb).trans (hc j x hj)⟩⟩
theorem Nums.below {w w' : World} {B B' n : Nat} {A : Option Addr} {l : List Int} (h : Nums w B A n l) (hb : Below B w w') (hB : B ≤ B') : Nums w' B' A n l := h.keep hB fun _ hp => hb.cell hp
/-- The call's own list of numbers. -/
def OwnU (w : World) (B : Nat) (v : Value) (l : List Int) : Prop := w.ownsRow B 22 1 v l.length (numVals l) ∧ l.length ≤ maxLen
theorem ownU_nil (w : World) (B : Nat) : OwnU w B (.slice none 0 0) [] := ⟨World.ownsRow_nil _ _ _ _, Nat.zero_le _⟩
theorem OwnU.form {w : World} {B : Nat} {v : Value} {l : List Int} (h : OwnU w B v l) : ∃ A c, v = .slice A l.length c := by
  rcases h.1.2 with ⟨rfl, hn⟩ | ⟨g, cap, cur, rfl, _⟩
  · exact ⟨none, 0, by rw [hn]⟩
  · exact ⟨_, _, rfl⟩
theorem OwnU.below {w w' : World} {B : Nat} {v : Value} {l : List Int} (h : OwnU w B v l) (hb : Below w.heap.size w w') : OwnU w' B v l := by
  refine ⟨⟨h.1.1, ?_⟩, h.2⟩
  rcases h.1.2 with h1 | ⟨g, cap, cur, e, hB, hg, r⟩
  · exact .inl h1
  · exact .inr ⟨g, cap, cur, e, hB, (hb.block g (Array.getElem?_eq_some_iff.1 hg).1).trans hg, r⟩
theorem OwnU.lower {w : World} {B B' : Nat} {v : Value} {l : List Int} (h : OwnU w B v l) (hB : B' ≤ B) : OwnU w B' v l := by
  refine ⟨⟨h.1.1, ?_⟩, h.2⟩
  rcases h.1.2 with h1 | ⟨g, cap, cur, e, hb, r⟩
  · exact .inl h1
  · exact .inr ⟨g, cap, cur, e, by omega, r⟩

theorem OwnU.alloc {w : World} {B : Nat} {v : Value} {l : List Int} (h : OwnU w B v l) (o : Obj) : OwnU (w.alloc o) B v l := h.below ((Below.refl _ _).alloc (Nat.le_refl _) o)
theorem OwnU.drewN {w : World} {B : Nat} {v : Value} {l : List Int} (h : OwnU w B v l) (q : Nat) : OwnU (w.drewN q) B v l := ⟨h.1, h.2⟩
theorem OwnU.nums {w : World} {B c n : Nat} {A : Option Addr} {l : List Int} (h : OwnU w B (.slice A n c) l) (hn : n = l.length) : Nums w w.heap.size A n l := by
  subst hn
  refine ⟨rfl, h.2, fun hn => ?_⟩
  rcases h.1.2 with ⟨_, h0⟩ | ⟨g, cap, cur, e, _, hg, _⟩
  · omega
  · simp only [Value.slice.injEq] at e
    obtain ⟨rfl, _, rfl⟩ := e
    refine ⟨g, 0, rfl, (Array.getElem?_eq_some_iff.1 hg).1, fun j x hj => ?_⟩
    have hlt : j < l.length := by
      rcases Nat.lt_or_ge j l.length with h | h
      · exact h
      · rw [List.getElem?_eq_none h] at hj; cases hj
    rw [Nat.zero_add, h.1.cellAt j (by omega), numVals_get l j x hj]
theorem blk1 {w : World} {g : Nat} {x : Int} (hg : w.heap[g]? = some (.cells #[.int .u64 x] 22 (0, 0))) : ∀ j u, ([Value.int .u64 x])[j]? = some u → w.cell? ((⟨g, 0, none⟩ : Addr).add j) = some u := by
  intro j u hj
  match j, hj with
  | 0, hj => simp at hj; subst hj; simpa [Addr.add] using (one_cell hg).1
  | j + 1, hj => simp at hj
/-- One number more: the source is a block of its own. -/
theorem wpList_append_u1 {P : Program} (w : World) (x : Int) {ops : Array Oper} {rest : List Oper} {o : Oper} {a : Act} {Q : Exit → Act → World → Prop} (hgd : o.guard = none) (s y : Operand) (t : TypeId)
    (ho : o.op = .call { callee := .builtin .append, args := #[s, y], argTypes := #[t, t] })
    (i : TypeInfo) (z : Value) (hzc : z.cells.size = 1) (ht : P.underlying t = some (.slice 22)) (hi : P.info? 22 = some i) (hz : i.zero = some z) (hsize : i.size = 1) (hby : i.bytes = 8)
    (B : Nat) (v : Value) (l : List Int) (hs : a.eval s = v) (hown : OwnU w B v l) (g : Nat) (hx : a.eval y = .slice (some ⟨g, 0, none⟩) 1 1)
    (hg : w.heap[g]? = some (.cells #[.int .u64 x] 22 (0, 0)))
    (hlen : (l.length + 1) * 8 ≤ 140737488355328) (hbase : B ≤ w.heap.size)
    (h : ∀ v' w', OwnU w' B v' (l ++ [x]) → w.grownBy w' v.ownBlock → wpList P ops Q rest (a.put o.dst v') w') : wpList P ops Q (o :: rest) a w := by
  refine wpList_append_own _ hgd s y t ho B 22 i z 1 8 ht hi hz hsize hby hzc (by decide) v l.length (numVals l) hs hown.1 ⟨g, 0, none⟩ 1 1 [.int .u64 x] hx rfl (blk1 hg) ?_ (by unfold maxLen; omega) (by omega) hbase ?_
  · intro u hu
    simp at hu
    subst hu; rfl
  · intro v' w' h2 h3 _
    refine h v' w' ⟨?_, by simp; unfold maxLen; omega⟩ h3
    rw [show numVals (l ++ [x]) = numVals l ++ [.int .u64 x] by simp [numVals]]
    simpa using h2
/-- One number more, at a step of a region that draws. -/
theorem step_append_u1 {P : Program} (w : World) (x : Int) {ops : Array Oper} {o : Oper} {a : Act} {K : Act → World → Prop} {Q : Exit → Act → World → Prop} {E : Prop} (hgd : o.guard = none) (s y : Operand) (t : TypeId)
    (ho : o.op = .call { callee := .builtin .append, args := #[s, y], argTypes := #[t, t] })
    (i : TypeInfo) (z : Value) (hzc : z.cells.size = 1) (ht : P.underlying t = some (.slice 22)) (hi : P.info? 22 = some i) (hz : i.zero = some z) (hsize : i.size = 1) (hby : i.bytes = 8)
    (B : Nat) (v : Value) (l : List Int) (hs : a.eval s = v) (hown : OwnU w B v l) (g : Nat) (hx : a.eval y = .slice (some ⟨g, 0, none⟩) 1 1)
    (hg : w.heap[g]? = some (.cells #[.int .u64 x] 22 (0, 0)))
    (hlen : (l.length + 1) * 8 ≤ 140737488355328) (hbase : B ≤ w.heap.size)
    (h : ∀ v' w', OwnU w' B v' (l ++ [x]) → w.grownBy w' v.ownBlock → K (a.put o.dst v') w') :
    if Region.wanted o (yielded ops a.tmps) = true then Oper.wp P o a w K Q else E := by
  refine step_append_lies w hgd s y t ho B 22 i z 1 8 ht hi hz hsize hby hzc (by decide) v l.length (numVals l) hs hown.1 ⟨g, 0, none⟩ 1 1 [.int .u64 x] hx rfl (blk1 hg) ?_ (by decide) (by unfold maxLen; omega) (by omega) hbase _ rfl ?_
  · intro u hu
    simp at hu
    subst hu; rfl
  · intro g' cap w' h2 h3 _ _
    refine h _ w' ⟨?_, by simp; unfold maxLen; omega⟩ h3
    rw [show numVals (l ++ [x]) = numVals l ++ [.int .u64 x] by simp [numVals]]
    simpa using h2
theorem OwnU.grown {a w w' : World} {B : Nat} {v : Value} {l : List Int} (h : OwnU w B v l) (hb : Below B a w) (hg : w.grownBy w' v.ownBlock) (hB : B ≤ w.heap.size) : Below B a w' :=
  hb.grown hg hB fun k hk => (h.1.lt k hk).1
/-- What a call leaves that hands back a list of numbers and an error. -/
def LstU (w : World) (l : List Int) (err : Int) (e : Ending) (w' : World) : Prop :=
  ∃ A n c, e = .returned (.tuple #[.slice A n c, .int .i64 err]) ∧ n = l.length ∧ OwnU w' w.heap.size (.slice A n c) l ∧ Below w.heap.size w w'
/-- The call's own list outlives what turns one block below it. -/
theorem OwnU.only {w w' : World} {B b : Nat} {v : Value} {l : List Int} (h : OwnU w B v l) (ho : Only b w w') (hb : b < B) (_ : B ≤ w.heap.size) : OwnU w' B v l := by
  refine ⟨⟨h.1.1, ?_⟩, h.2⟩
  rcases h.1.2 with h1 | ⟨g, cap, cur, e, hB, hg, r⟩
  · exact .inl h1
  · exact .inr ⟨g, cap, cur, e, hB, (ho.block g (Array.getElem?_eq_some_iff.1 hg).1 (by omega)).trans hg, r⟩

theorem OwnU.far {a y z : World} {B k : Nat} {v : Value} {l : List Int} (h : OwnU a B v l) (hg : y.grownBy z v.ownBlock) (hk : k < B) (hB : B ≤ y.heap.size) : z.heap[k]? = y.heap[k]? :=
  hg.block k (by omega) fun e => by have := (h.1.lt k e.symm).1; omega

theorem OwnU.set_far {w : World} {B k i : Nat} {v : Value} {l : List Int} (h : OwnU w B v l) (hk : k < B) (u : Value) : OwnU (w.setCell ⟨k, i, none⟩ u) B v l := by
  refine ⟨⟨h.1.1, ?_⟩, h.2⟩
  rcases h.1.2 with h1 | ⟨g, cap, cur, e, hB, hg, r⟩
  · exact .inl h1
  · exact .inr ⟨g, cap, cur, e, hB, (Below.heap_setCell _ _ _ _ (by dsimp only; omega)).trans hg, r⟩

theorem lstU_ret {x l : List Int} {err e2 : Int} {w w' : World} {A : Option Addr} {n c : Nat} (ho : OwnU w' w.heap.size (.slice A n c) x) (hn : n = x.length) (hb : Below w.heap.size w w') (h1 : x = l) (h2 : e2 = err) : LstU w l err (.returned (.tuple #[.slice A n c, .int .i64 e2])) w' := by
  subst h1 h2; exact ⟨_, _, _, rfl, hn, ho, hb⟩

end Go.Proofs.Ytpnieegaemfffaa
