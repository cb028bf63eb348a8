/- Lists of fields in memory. -/
import Derived.Test.YtpnieegaemfffaaWh
namespace Go.Proofs.Ytpnieegaemfffaa
open Go.RowKit

theorem Try.info35 : (Try.prog.info? 35).map (fun i => (i.zero, i.size, i.bytes)) = some (some (.agg #[.int .i64 0, .int .i64 0, .int .u64 0, .string ⟨#[]⟩]), 4, 40) := by kernel_rfl

def Fd.cells (f : Fd) : List Value := [.int .i64 f.num, .int .i64 f.kind, .int .u64 f.u, .string f.b]
def flat (l : List Fd) : List Value := l.flatMap Fd.cells
theorem flat_cons (f : Fd) (l : List Fd) : flat (f :: l) = f.cells ++ flat l := by simp [flat]
theorem flat_append (a b : List Fd) : flat (a ++ b) = flat a ++ flat b := by simp [flat]
theorem flat_len (l : List Fd) : (flat l).length = l.length * 4 := by
  induction l with
  | nil => rfl
  | cons f l ih => rw [flat_cons, List.length_append, ih]; simp [Fd.cells]; omega
theorem flat_get (l : List Fd) (j i : Nat) (hi : i < 4) (f : Fd) (hj : l[j]? = some f) : (flat l)[4 * j + i]? = f.cells[i]? := by
  induction l generalizing j with
  | nil => simp at hj
  | cons g l ih =>
    cases j with
    | zero =>
      simp at hj
      subst hj
      rw [flat_cons, List.getElem?_append_left (by simp [Fd.cells]; omega)]; simp
    | succ j =>
      simp at hj
      have e : 4 * (j + 1) + i = g.cells.length + (4 * j + i) := by simp [Fd.cells]; omega
      rw [flat_cons, e, List.getElem?_append_right (by omega), show g.cells.length + (4 * j + i) - g.cells.length = 4 * j + i by omega]
      exact ih j hj

/-- The slice value '.slice A n c' reads as the fields l in the world w, below block B. -/
structure Flds (w : World) (B : Nat) (A : Option Addr) (n : Nat) (l : List Fd) : Prop where
  len : l.length = n
  small : n ≤ maxLen
  at_ : 0 < n → ∃ b off, A = some ⟨b, off, none⟩ ∧ b < B ∧ ∀ j f, l[j]? = some f → w.cell? ⟨b, off + 4 * j, none⟩ = some (.int .i64 f.num) ∧ w.cell? ⟨b, off + 4 * j + 1, none⟩ = some (.int .i64 f.kind) ∧ w.cell? ⟨b, off + 4 * j + 2, none⟩ = some (.int .u64 f.u) ∧ w.cell? ⟨b, off + 4 * j + 3, none⟩ = some (.string f.b)
theorem Flds.keep {w w' : World} {B B' n : Nat} {A : Option Addr} {l : List Fd} (h : Flds w B A n l) (hB : B ≤ B') (hk : ∀ p : Addr, p.block < B → w'.cell? p = w.cell? p) : Flds w' B' A n l :=
  ⟨h.len, h.small, fun hn => by
    obtain ⟨b, off, e, hb, hc⟩ := h.at_ hn
    refine ⟨b, off, e, by omega, fun j f hj => ?_⟩
    obtain ⟨c0, c1, c2, c3⟩ := hc j f hj
    exact ⟨(hk _ hb).trans c0, (hk _ hb).trans c1, (hk _ hb).trans c2, (hk _ hb).trans c3⟩⟩
theorem Flds.below {w w' : World} {B B' n : Nat} {A : Option Addr} {l : List Fd} (h : Flds w B A n l) (hb : Below B w w') (hB : B ≤ B') : Flds w' B' A n l := h.keep hB fun _ hp => hb.cell hp
theorem Flds.drewN {w : World} {B n : Nat} {A : Option Addr} {l : List Fd} (h : Flds w B A n l) (q : Nat) : Flds (w.drewN q) B A n l := h.keep (Nat.le_refl _) fun _ _ => rfl
theorem Flds.alloc {w : World} {B n : Nat} {A : Option Addr} {l : List Fd} (h : Flds w B A n l) (hB : B ≤ w.heap.size) (o : Obj) : Flds (w.alloc o) B A n l :=
  h.keep (Nat.le_refl _) fun p hp => World.cell?_alloc_lt w o p (by omega)

/-- The call's own list of fields. -/
def OwnF (w : World) (B : Nat) (v : Value) (l : List Fd) : Prop := w.ownsRow B 35 4 v l.length (flat l) ∧ l.length ≤ maxLen
theorem ownF_nil (w : World) (B : Nat) : OwnF w B (.slice none 0 0) [] := ⟨World.ownsRow_nil _ _ _ _, Nat.zero_le _⟩
theorem OwnF.form {w : World} {B : Nat} {v : Value} {l : List Fd} (h : OwnF w B v l) : ∃ A c, v = .slice A l.length c := by
  rcases h.1.2 with ⟨rfl, hn⟩ | ⟨g, cap, cur, rfl, _⟩
  · exact ⟨none, 0, by rw [hn]⟩
  · exact ⟨_, _, rfl⟩
theorem OwnF.flds {w : World} {B c n : Nat} {A : Option Addr} {l : List Fd} (h : OwnF w B (.slice A n c) l) (hn : n = l.length) : Flds w w.heap.size A n l := by
  subst hn
  refine ⟨rfl, h.2, fun hn => ?_⟩
  rcases h.1.2 with ⟨_, h0⟩ | ⟨g, cap, cur, e, _, hg, _⟩
  · omega
  · simp only [Value.slice.injEq] at e
    obtain ⟨rfl, _, rfl⟩ := e
    refine ⟨g, 0, rfl, (Array.getElem?_eq_some_iff.1 hg).1, fun j f hj => ?_⟩
    have hlt : j < l.length := by
      rcases Nat.lt_or_ge j l.length with h | h
      · exact h
      · rw [List.getElem?_eq_none h] at hj; cases hj
    have key : ∀ i, i < 4 → w.cell? ⟨g, 0 + 4 * j + i, none⟩ = f.cells[i]? := fun i hi => by
      rw [Nat.zero_add, h.1.cellAt (4 * j + i) (by omega), flat_get l j i hi f hj]
    exact ⟨key 0 (by omega), key 1 (by omega), key 2 (by omega), key 3 (by omega)⟩
theorem OwnF.below {w w' : World} {B : Nat} {v : Value} {l : List Fd} (h : OwnF w B v l) (hb : Below w.heap.size w w') : OwnF w' B v l := by
  refine ⟨⟨h.1.1, ?_⟩, h.2⟩
  rcases h.1.2 with h1 | ⟨g, cap, cur, e, hB, hg, r⟩
  · exact .inl h1
  · exact .inr ⟨g, cap, cur, e, hB, (hb.block g (Array.getElem?_eq_some_iff.1 hg).1).trans hg, r⟩
theorem OwnF.lower {w : World} {B B' : Nat} {v : Value} {l : List Fd} (h : OwnF w B v l) (hB : B' ≤ B) : OwnF w B' v l := by
  refine ⟨⟨h.1.1, ?_⟩, h.2⟩
  rcases h.1.2 with h1 | ⟨g, cap, cur, e, hb, r⟩
  · exact .inl h1
  · exact .inr ⟨g, cap, cur, e, by omega, r⟩

theorem OwnF.alloc {w : World} {B : Nat} {v : Value} {l : List Fd} (h : OwnF w B v l) (o : Obj) : OwnF (w.alloc o) B v l := h.below ((Below.refl _ _).alloc (Nat.le_refl _) o)
theorem OwnF.drewN {w : World} {B : Nat} {v : Value} {l : List Fd} (h : OwnF w B v l) (q : Nat) : OwnF (w.drewN q) B v l := ⟨h.1, h.2⟩
theorem heap_second (w : World) (a b : Obj) (k : Nat) (hk : k = w.heap.size + 1) : ((w.alloc a).alloc b).heap[k]? = some b := by
  subst hk
  have e1 : (w.alloc a).heap.size = w.heap.size + 1 := by simp
  have h1 := heap_alloc_new (w.alloc a) b
  rwa [e1] at h1
/-- One field more: the source is the field's own block. -/
theorem wpList_append_f1 {P : Program} (w : World) (f : Fd) {ops : Array Oper} {rest : List Oper} {o : Oper} {a : Act} {Q : Exit → Act → World → Prop} (hgd : o.guard = none) (s y : Operand) (t : TypeId)
    (ho : o.op = .call { callee := .builtin .append, args := #[s, y], argTypes := #[t, t] })
    (i : TypeInfo) (z : Value) (hzc : z.cells.size = 4) (ht : P.underlying t = some (.slice 35)) (hi : P.info? 35 = some i) (hz : i.zero = some z) (hsize : i.size = 4) (hby : i.bytes = 40)
    (B : Nat) (v : Value) (l : List Fd) (hs : a.eval s = v) (hown : OwnF w B v l) (g : Nat) (hx : a.eval y = .slice (some ⟨g, 0, none⟩) 1 1)
    (hg : w.heap[g]? = some (.cells #[.int .i64 f.num, .int .i64 f.kind, .int .u64 f.u, .string f.b] 35 (0, 0)))
    (hlen : (l.length + 1) * 40 ≤ 140737488355328) (hbase : B ≤ w.heap.size)
    (h : ∀ v' w', OwnF w' B v' (l ++ [f]) → w.grownBy w' v.ownBlock → wpList P ops Q rest (a.put o.dst v') w') : wpList P ops Q (o :: rest) a w := by
  obtain ⟨⟨c0, c1, c2, c3⟩, _⟩ := blk4 hg
  refine wpList_append_own _ hgd s y t ho B 35 i z 4 40 ht hi hz hsize hby hzc (by decide) v l.length (flat l) hs hown.1 ⟨g, 0, none⟩ 1 1 f.cells hx rfl ?_ ?_ (by unfold maxLen; omega) (by omega) hbase ?_
  · intro j u hj
    match j, hj with
    | 0, hj => simp [Fd.cells] at hj; subst hj; simpa [Addr.add] using c0
    | 1, hj => simp [Fd.cells] at hj; subst hj; simpa [Addr.add] using c1
    | 2, hj => simp [Fd.cells] at hj; subst hj; simpa [Addr.add] using c2
    | 3, hj => simp [Fd.cells] at hj; subst hj; simpa [Addr.add] using c3
    | j + 4, hj => simp [Fd.cells] at hj
  · intro u hu
    simp [Fd.cells] at hu
    rcases hu with rfl | rfl | rfl | rfl <;> rfl
  · intro v' w' h2 h3 _
    refine h v' w' ⟨?_, by simp; unfold maxLen; omega⟩ h3
    rw [flat_append, show flat [f] = f.cells by simp [flat]]
    simpa using h2
theorem OwnF.grown {a w w' : World} {B : Nat} {v : Value} {l : List Fd} (h : OwnF w B v l) (hb : Below B a w) (hg : w.grownBy w' v.ownBlock) (hB : B ≤ w.heap.size) : Below B a w' :=
  hb.grown hg hB fun k hk => (h.1.lt k hk).1
/-- What a call leaves that hands back a list of fields and an error. -/
def LstF (w : World) (l : List Fd) (err : Int) (e : Ending) (w' : World) : Prop :=
  ∃ A n c, e = .returned (.tuple #[.slice A n c, .int .i64 err]) ∧ n = l.length ∧ OwnF w' w.heap.size (.slice A n c) l ∧ Below w.heap.size w w'
end Go.Proofs.Ytpnieegaemfffaa
