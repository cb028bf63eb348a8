/- Nested data in memory: how a thing lies in cells, slices of such things, slices of the call's own. Nested data in memory: appends. The first parts are turned from the guide's words. How tensors, attributes, nodes, values and graphs lie in cells. -/
import Derived.WalkKit
import Derived.WalkSpells
import Derived.WalkLawsBesides
import Derived.Lib.Hide
import Derived.Deep.AppendLies
import Derived.Deep.Draws
import Derived.Maps.AppendAt
import Derived.Laws.OwnMore
import Derived.RegionTactic
import Derived.OwnWalk
set_option linter.unusedVariables false
/- Nested data in memory: how a thing lies in cells, slices of such things, slices of the call's own. -/
namespace Go.Proofs.Ytkcnpnnflbibiaa
open Go.RowKit

/-- Two worlds alike on the blocks of a set. -/
def Keeps (Z : Nat → Prop) (w w' : World) : Prop := ∀ k, Z k → w'.heap[k]? = w.heap[k]?
theorem Keeps.cell {Z : Nat → Prop} {w w' : World} (h : Keeps Z w w') {a : Addr} (ha : Z a.block) : w'.cell? a = w.cell? a := World.cell?_of_block (h _ ha)

/-- How a thing lies in cells. -/
structure Rep (α : Type) where
  sz : Nat
  R : World → (Nat → Prop) → List Value → α → Prop
  len : ∀ {w : World} {Z : Nat → Prop} {cs : List Value} {x : α}, R w Z cs x → cs.length = sz
  one : ∀ {w : World} {Z : Nat → Prop} {cs : List Value} {x : α}, R w Z cs x → ∀ u ∈ cs, u.oneCell' = true
  keep : ∀ {w w' : World} {Z Z' : Nat → Prop} {cs : List Value} {x : α}, R w Z cs x → Keeps Z w w' → (∀ k, Z k → Z' k) → R w' Z' cs x

/-- The slice value '.slice A n c' reads as the list l in the world w, in the blocks Z. -/
structure Slc {α : Type} (ρ : Rep α) (w : World) (Z : Nat → Prop) (A : Option Addr) (n : Nat) (l : List α) : Prop where
  len : l.length = n
  small : n ≤ maxLen
  at_ : 0 < n → ∃ b off, A = some ⟨b, off, none⟩ ∧ Z b ∧ ∀ j x, l[j]? = some x → ∃ cs, ρ.R w Z cs x ∧ ∀ i, i < ρ.sz → w.cell? ⟨b, off + j * ρ.sz + i, none⟩ = cs[i]?

section
variable {α : Type} {ρ : Rep α} {w w' : World} {Z Z' : Nat → Prop} {A : Option Addr} {n : Nat} {l : List α}
theorem Slc.keep (h : Slc ρ w Z A n l) (hk : Keeps Z w w') (hZ : ∀ k, Z k → Z' k) : Slc ρ w' Z' A n l :=
  ⟨h.len, h.small, fun hn => by
    obtain ⟨b, off, e, hb, hc⟩ := h.at_ hn
    refine ⟨b, off, e, hZ b hb, fun j x hj => ?_⟩
    obtain ⟨cs, hr, hi⟩ := hc j x hj
    exact ⟨cs, ρ.keep hr hk hZ, fun i hi' => (hk.cell (a := ⟨b, off + j * ρ.sz + i, none⟩) hb).trans (hi i hi')⟩⟩
theorem Slc.nil_ : Slc ρ w Z A 0 [] := ⟨rfl, Nat.zero_le _, fun h => absurd h (by omega)⟩
theorem Slc.get (h : Slc ρ w Z A n l) {k : Nat} (hk : k < n) : ∃ b off x cs, A = some ⟨b, off, none⟩ ∧ Z b ∧ l[k]? = some x ∧ ρ.R w Z cs x ∧ ∀ i, i < ρ.sz → w.cell? ⟨b, off + k * ρ.sz + i, none⟩ = cs[i]? := by
  obtain ⟨b, off, e, hb, hc⟩ := h.at_ (by omega)
  obtain ⟨x, hx⟩ : ∃ x, l[k]? = some x := ⟨_, List.getElem?_eq_getElem (by rw [h.len]; exact hk)⟩
  obtain ⟨cs, hr, hi⟩ := hc k x hx
  exact ⟨b, off, x, cs, e, hb, hx, hr, hi⟩
end

/-- The call's own slice. -/
structure OwnL {α : Type} (ρ : Rep α) (e : TypeId) (w : World) (B : Nat) (Z : Nat → Prop) (v : Value) (l : List α) : Prop where
  own : ∃ xs, w.ownsRow B e ρ.sz v l.length xs ∧ ∀ j x, l[j]? = some x → ∃ cs, ρ.R w Z cs x ∧ ∀ i, i < ρ.sz → xs[j * ρ.sz + i]? = cs[i]?
  small : l.length ≤ maxLen

section
variable {α : Type} {ρ : Rep α} {e : TypeId} {w w' : World} {B : Nat} {Z Z' : Nat → Prop} {v : Value} {l : List α}
theorem ownL_nil : OwnL ρ e w B Z (.slice none 0 0) [] := ⟨⟨[], by simpa using World.ownsRow_nil w B e ρ.sz, fun j x h => by simp at h⟩, Nat.zero_le _⟩
theorem OwnL.form (h : OwnL ρ e w B Z v l) : ∃ A c, v = .slice A l.length c := by
  obtain ⟨xs, hx, _⟩ := h.own
  rcases hx.2 with ⟨rfl, hn⟩ | ⟨g, cap, cur, rfl, _⟩
  · exact ⟨none, 0, by rw [hn]⟩
  · exact ⟨_, _, rfl⟩
theorem OwnL.lt (h : OwnL ρ e w B Z v l) : ∀ k, v.ownBlock = some k → B ≤ k ∧ k < w.heap.size := by
  obtain ⟨xs, hx, _⟩ := h.own
  exact hx.lt
theorem OwnL.keep (h : OwnL ρ e w B Z v l) (hv : ∀ k, v.ownBlock = some k → w'.heap[k]? = w.heap[k]?) (hk : Keeps Z w w') (hZ : ∀ k, Z k → Z' k) : OwnL ρ e w' B Z' v l := by
  obtain ⟨xs, hx, hr⟩ := h.own
  refine ⟨⟨xs, ⟨hx.1, ?_⟩, fun j x hj => ?_⟩, h.small⟩
  · rcases hx.2 with h1 | ⟨g, cap, cur, e1, hB, hg, r⟩
    · exact .inl h1
    · exact .inr ⟨g, cap, cur, e1, hB, (hv g (by rw [e1]; rfl)).trans hg, r⟩
  · obtain ⟨cs, h1, h2⟩ := hr j x hj
    exact ⟨cs, ρ.keep h1 hk hZ, h2⟩
theorem OwnL.mono (h : OwnL ρ e w B Z v l) (hZ : ∀ k, Z k → Z' k) : OwnL ρ e w B Z' v l := h.keep (fun _ _ => rfl) (fun _ _ => rfl) hZ
theorem OwnL.lower {B' : Nat} (h : OwnL ρ e w B Z v l) (hB : B' ≤ B) : OwnL ρ e w B' Z v l := by
  obtain ⟨xs, hx, hr⟩ := h.own
  refine ⟨⟨xs, ⟨hx.1, ?_⟩, hr⟩, h.small⟩
  rcases hx.2 with h1 | ⟨g, cap, cur, e1, hb, r⟩
  · exact .inl h1
  · exact .inr ⟨g, cap, cur, e1, by omega, r⟩
/-- Read. -/
theorem OwnL.slc {A : Option Addr} {n c : Nat} (h : OwnL ρ e w B Z (.slice A n c) l) (hn : n = l.length) (hsz : 0 < ρ.sz) (hZ : ∀ k, Z k → Z' k) (hv : ∀ a, A = some a → Z' a.block) : Slc ρ w Z' A n l := by
  subst hn
  obtain ⟨xs, hx, hr⟩ := h.own
  refine ⟨rfl, h.small, fun hn => ?_⟩
  rcases hx.2 with ⟨_, h0⟩ | ⟨g, cap, cur, e1, _, hg, _⟩
  · omega
  · simp only [Value.slice.injEq] at e1
    obtain ⟨rfl, _, rfl⟩ := e1
    refine ⟨g, 0, rfl, hv _ rfl, fun j x hj => ?_⟩
    obtain ⟨cs, h1, h2⟩ := hr j x hj
    have hlt : j < l.length := by
      rcases Nat.lt_or_ge j l.length with h | h
      · exact h
      · rw [List.getElem?_eq_none h] at hj; cases hj
    refine ⟨cs, ρ.keep h1 (fun _ _ => rfl) hZ, fun i hi => ?_⟩
    rw [Nat.zero_add, hx.cellAt (j * ρ.sz + i) (by
      have : (j + 1) * ρ.sz ≤ l.length * ρ.sz := Nat.mul_le_mul_right _ hlt
      rw [Nat.add_mul] at this
      omega)]
    exact h2 i hi
end
end Go.Proofs.Ytkcnpnnflbibiaa

/- Nested data in memory: appends. The first parts are turned from the guide's words. -/
namespace Go.Proofs.Ytkcnpnnflbibiaa
open Go.RowKit

theorem block_of_add (a : Addr) (n : Nat) : (a.add n).block = a.block := by unfold Addr.add; split <;> rfl
theorem add_of_add (a : Addr) (i j : Nat) : (a.add i).add j = a.add (i + j) := by
  unfold Addr.add
  by_cases hi : i = 0 <;> by_cases hj : j = 0 <;> simp [hi, hj, Nat.add_assoc]

def Reads (w : World) (B size : Nat) (A : Option Addr) (n : Nat) (xs : List Value) : Prop :=
  xs.length = n * size ∧ (0 < n → ∃ ad, A = some ad ∧ ad.block < B ∧ ∀ j u, xs[j]? = some u → w.cell? (ad.add j) = some u)

section
variable {w w' : World} {B B' size n : Nat} {A : Option Addr} {xs : List Value}
theorem Reads.none_ : Reads w B size A 0 [] := ⟨by simp, fun h => absurd h (by omega)⟩
theorem Reads.at_ {k : Nat} (h : Reads w B 1 A n xs) (hk : k < n) : ∃ ad u, A = some ad ∧ ad.block < B ∧ xs[k]? = some u ∧ w.cell? (ad.add k) = some u := by
  obtain ⟨ad, e, hb, hc⟩ := h.2 (by omega)
  have hl : k < xs.length := by have := h.1; omega
  exact ⟨ad, xs[k], e, hb, List.getElem?_eq_getElem hl, hc k _ (List.getElem?_eq_getElem hl)⟩
theorem Reads.keep (h : Reads w B size A n xs) (hk : ∀ p : Addr, p.block < B → w'.cell? p = w.cell? p) : Reads w' B size A n xs :=
  ⟨h.1, fun hn => by
    obtain ⟨ad, e, hb, hc⟩ := h.2 hn
    exact ⟨ad, e, hb, fun j u hu => (hk _ (by rw [block_of_add]; exact hb)).trans (hc j u hu)⟩⟩
theorem Reads.more (h : Reads w B size A n xs) (hB : B ≤ B') : Reads w B' size A n xs :=
  ⟨h.1, fun hn => by
    obtain ⟨ad, e, hb, hc⟩ := h.2 hn
    exact ⟨ad, e, by omega, hc⟩⟩
theorem Reads.below (h : Reads w B size A n xs) (hb : Below B w w') : Reads w' B size A n xs := h.keep fun _ hp => hb.cell hp
theorem Reads.drew (h : Reads w B size A n xs) : Reads w.drew B size A n xs := h
theorem Reads.drewN (h : Reads w B size A n xs) (k : Nat) : Reads (w.drewN k) B size A n xs := h
theorem Reads.alloc (h : Reads w B size A n xs) (hB : B ≤ w.heap.size) (o : Obj) : Reads (w.alloc o) B size A n xs := h.keep fun p hp => World.cell?_alloc_lt w o p (by omega)
theorem Reads.setCell (h : Reads w B size A n xs) {p : Addr} (hB : B ≤ p.block) (u : Value) : Reads (w.setCell p u) B size A n xs :=
  h.keep fun q hq => World.cell?_setCell_other w p q u (fun e => by subst e; omega)
theorem Reads.grown (h : Reads w B size A n xs) {row : Option Nat} (hg : w.grownBy w' row) (hB : B ≤ w.heap.size) (hr : ∀ g, row = some g → B ≤ g) : Reads w' B size A n xs :=
  h.keep fun p hp => World.cell?_of_block (hg.block p.block (by omega) (fun e => by have := hr _ e.symm; omega))
theorem Reads.cut (h : Reads w B size A n xs) {k cap : Nat} (hk : k ≤ n) (hc : n ≤ cap) :
    Reads w B size (if cap = k then A else A.map (·.add (k * size))) (n - k) (xs.drop (k * size)) := by
  refine ⟨by rw [List.length_drop, h.1, Nat.sub_mul], fun hn => ?_⟩
  obtain ⟨ad, rfl, hb, hcell⟩ := h.2 (by omega)
  rw [if_neg (by omega)]
  refine ⟨ad.add (k * size), rfl, by rw [block_of_add]; exact hb, fun j u hu => ?_⟩
  rw [add_of_add]
  exact hcell _ u (by rw [← hu, List.getElem?_drop])
theorem Reads.of_own {base : Nat} {e : TypeId} {c : Nat} (h : w.ownsRow base e size (.slice A n c) n xs) : Reads w w.heap.size size A n xs := by
  refine ⟨h.1, fun hn => ?_⟩
  obtain ⟨g, cap, hv, _, hlt⟩ := h.form hn
  have hA : A = some ⟨g, 0, none⟩ := by injection hv
  subst hA
  exact ⟨_, rfl, hlt, h.cells (g := g) rfl⟩
end

section
variable {P : Program} (w : World)

theorem run_append_of_nil (base : Nat) (t ty e : TypeId) (i : TypeInfo) (size : Nat) (ht : P.underlying t = some (.slice e)) (hi : P.info? e = some i)
    (v : Value) (n : Nat) (xs : List Value) (hown : w.ownsRow base e size v n xs) (c : Nat) : (Builtin.append_ #[t, t] ty #[v, .slice none 0 c]).run P w = .ok v w := by
  rcases hown.2 with ⟨rfl, rfl⟩ | ⟨g, cap, cur, rfl, _, _, hnc, _⟩
  · simp [Builtin.append_, run_underlying ht, sizeOf, typeInfo, hi, Builtin.lenOf, Builtin.firstCells]
  · simp [Builtin.append_, run_underlying ht, sizeOf, typeInfo, hi, Builtin.lenOf, Builtin.firstCells, hnc, storeCells]

theorem run_append_any (base : Nat) (t ty e : TypeId) (i : TypeInfo) (z : Value) (size bytes : Nat) (ht : P.underlying t = some (.slice e)) (hi : P.info? e = some i) (hz : i.zero = some z)
    (hsize : i.size = size) (hby : i.bytes = bytes) (hzs : z.cells.size = size) (hsz : 0 < size)
    (v : Value) (n : Nat) (xs : List Value) (hown : w.ownsRow base e size v n xs)
    (B : Nat) (A : Option Addr) (m c : Nat) (news : List Value) (hr : Reads w B size A m news) (h1 : ∀ u ∈ news, u.oneCell' = true)
    (h63 : n + m ≤ maxLen) (hbytes : (n + m) * bytes ≤ 140737488355328) (hbase : base ≤ w.heap.size) :
    ∃ v' w', (Builtin.append_ #[t, t] ty #[v, .slice A m c]).run P w = .ok v' w' ∧ w'.ownsRow base e size v' (n + m) (xs ++ news) ∧ w.grownBy w' v.ownBlock ∧
      (v'.ownBlock = v.ownBlock ∨ v'.ownBlock = some w.heap.size) := by
  rcases A with _ | ad
  · have hm : m = 0 := by
      rcases Nat.eq_zero_or_pos m with h0 | h0
      · exact h0
      · obtain ⟨ad, h, _⟩ := hr.2 h0
        cases h
    subst hm
    have hn : news = [] := List.eq_nil_of_length_eq_zero (by simpa using hr.1)
    subst hn
    exact ⟨v, w, run_append_of_nil w base t ty e i size ht hi v n xs hown c, by simpa using hown, World.grownBy.refl w _, .inl rfl⟩
  · have hcells : ∀ j u, news[j]? = some u → w.cell? (ad.add j) = some u := by
      intro j u hu
      rcases Nat.eq_zero_or_pos m with h0 | h0
      · subst h0
        have hn : news = [] := List.eq_nil_of_length_eq_zero (by simpa using hr.1)
        subst hn
        simp at hu
      · obtain ⟨ad', h, _, hc⟩ := hr.2 h0
        injection h with h
        subst h
        exact hc j u hu
    obtain ⟨v', w', hrun, h2, h3, _, h5⟩ := run_append_own_at (P := P) w base t ty e i z size bytes ht hi hz hsize hby hzs hsz v n xs hown ad m c news hr.1 hcells h1 h63 hbytes hbase
    exact ⟨v', w', hrun, h2, h3, h5⟩

theorem wp_append_any {o : Oper} {a : Act} {K : Act → World → Prop} {Q : Exit → Act → World → Prop} (s x : Operand) (t : TypeId)
    (ho : o.op = .call { callee := .builtin .append, args := #[s, x], argTypes := #[t, t] })
    (base : Nat) (e : TypeId) (i : TypeInfo) (z : Value) (size bytes : Nat) (ht : P.underlying t = some (.slice e)) (hi : P.info? e = some i) (hz : i.zero = some z)
    (hsize : i.size = size) (hby : i.bytes = bytes) (hzs : z.cells.size = size) (hsz : 0 < size)
    (v : Value) (n : Nat) (xs : List Value) (hs : a.eval s = v) (hown : w.ownsRow base e size v n xs)
    (B : Nat) (A : Option Addr) (m c : Nat) (news : List Value) (hx : a.eval x = .slice A m c) (hr : Reads w B size A m news) (h1 : ∀ u ∈ news, u.oneCell' = true)
    (h63 : n + m ≤ maxLen) (hbytes : (n + m) * bytes ≤ 140737488355328) (hbase : base ≤ w.heap.size)
    (h : ∀ v' w', w'.ownsRow base e size v' (n + m) (xs ++ news) → w.grownBy w' v.ownBlock → (v'.ownBlock = v.ownBlock ∨ v'.ownBlock = some w.heap.size) → K (a.put o.dst v') w') : o.wp P a w K Q := by
  obtain ⟨v', w', hrun, h2, h3, h4⟩ := run_append_any (P := P) w base t o.type e i z size bytes ht hi hz hsize hby hzs hsz v n xs hown B A m c news hr h1 h63 hbytes hbase
  unfold Oper.wp execOp
  simp only [ho, resolve, invoke, builtin, Sem.run_bind, Sem.run_pure, Result.andThen_ok, List.map_toArray, List.map_cons, List.map_nil, hs, hx, hrun]
  exact h v' w' h2 h3 h4

theorem wpList_append_any {ops : Array Oper} {rest : List Oper} {o : Oper} {a : Act} {Q : Exit → Act → World → Prop} (hgd : o.guard = none) (s x : Operand) (t : TypeId)
    (ho : o.op = .call { callee := .builtin .append, args := #[s, x], argTypes := #[t, t] })
    (base : Nat) (e : TypeId) (i : TypeInfo) (z : Value) (size bytes : Nat) (ht : P.underlying t = some (.slice e)) (hi : P.info? e = some i) (hz : i.zero = some z)
    (hsize : i.size = size) (hby : i.bytes = bytes) (hzs : z.cells.size = size) (hsz : 0 < size)
    (v : Value) (n : Nat) (xs : List Value) (hs : a.eval s = v) (hown : w.ownsRow base e size v n xs)
    (B : Nat) (A : Option Addr) (m c : Nat) (news : List Value) (hx : a.eval x = .slice A m c) (hr : Reads w B size A m news) (h1 : ∀ u ∈ news, u.oneCell' = true)
    (h63 : n + m ≤ maxLen) (hbytes : (n + m) * bytes ≤ 140737488355328) (hbase : base ≤ w.heap.size)
    (h : ∀ v' w', w'.ownsRow base e size v' (n + m) (xs ++ news) → w.grownBy w' v.ownBlock → (v'.ownBlock = v.ownBlock ∨ v'.ownBlock = some w.heap.size) → wpList P ops Q rest (a.put o.dst v') w') : wpList P ops Q (o :: rest) a w :=
  wpList_plain hgd fun _ hK => wp_append_any w s x t ho base e i z size bytes ht hi hz hsize hby hzs hsz v n xs hs hown B A m c news hx hr h1 h63 hbytes hbase fun v' w' h2 h3 h4 => hK _ _ (h v' w' h2 h3 h4)

theorem step_append_any {ops : Array Oper} {o : Oper} {a : Act} {K : Act → World → Prop} {Q : Exit → Act → World → Prop} {E : Prop} (hgd : o.guard = none) (s x : Operand) (t : TypeId)
    (ho : o.op = .call { callee := .builtin .append, args := #[s, x], argTypes := #[t, t] })
    (base : Nat) (e : TypeId) (i : TypeInfo) (z : Value) (size bytes : Nat) (ht : P.underlying t = some (.slice e)) (hi : P.info? e = some i) (hz : i.zero = some z)
    (hsize : i.size = size) (hby : i.bytes = bytes) (hzs : z.cells.size = size) (hsz : 0 < size)
    (v : Value) (n : Nat) (xs : List Value) (hs : a.eval s = v) (hown : w.ownsRow base e size v n xs)
    (B : Nat) (A : Option Addr) (m c : Nat) (news : List Value) (hx : a.eval x = .slice A m c) (hr : Reads w B size A m news) (h1 : ∀ u ∈ news, u.oneCell' = true)
    (h63 : n + m ≤ maxLen) (hbytes : (n + m) * bytes ≤ 140737488355328) (hbase : base ≤ w.heap.size)
    (h : ∀ v' w', w'.ownsRow base e size v' (n + m) (xs ++ news) → w.grownBy w' v.ownBlock → (v'.ownBlock = v.ownBlock ∨ v'.ownBlock = some w.heap.size) → K (a.put o.dst v') w') :
    if Region.wanted o (yielded ops a.tmps) = true then Oper.wp P o a w K Q else E := by
  have hw : Region.wanted o (yielded ops a.tmps) = true := by simp [Region.wanted, hgd]
  rw [if_pos hw]
  exact wp_append_any w s x t ho base e i z size bytes ht hi hz hsize hby hzs hsz v n xs hs hown B A m c news hx hr h1 h63 hbytes hbase h
end

/-- Rows of cells put together. -/
theorem exists_flat {P : Nat → List Value → Prop} {sz : Nat} : ∀ n : Nat, (∀ j, j < n → ∃ cs, cs.length = sz ∧ P j cs) → ∃ xs : List Value, xs.length = n * sz ∧ (∀ u ∈ xs, ∃ j cs, j < n ∧ P j cs ∧ u ∈ cs) ∧ ∀ j, j < n → ∃ cs, P j cs ∧ cs.length = sz ∧ ∀ i, i < sz → xs[j * sz + i]? = cs[i]? := by
  intro n
  induction n with
  | zero => intro _; exact ⟨[], by simp, fun u hu => by simp at hu, fun j hj => absurd hj (by omega)⟩
  | succ n ih =>
    intro h
    obtain ⟨xs, hl, hm, hx⟩ := ih (fun j hj => h j (by omega))
    obtain ⟨cs, hcl, hp⟩ := h n (by omega)
    refine ⟨xs ++ cs, by rw [List.length_append, hl, hcl, Nat.add_mul]; omega, fun u hu => ?_, fun j hj => ?_⟩
    · rcases List.mem_append.1 hu with hu | hu
      · obtain ⟨j, c, hj, hp', hc⟩ := hm u hu
        exact ⟨j, c, by omega, hp', hc⟩
      · exact ⟨n, cs, by omega, hp, hu⟩
    · rcases Nat.lt_or_ge j n with hjn | hjn
      · obtain ⟨c, hp', hcl', hi⟩ := hx j hjn
        refine ⟨c, hp', hcl', fun i hi' => ?_⟩
        have : (j + 1) * sz ≤ n * sz := Nat.mul_le_mul_right _ hjn
        rw [Nat.add_mul] at this
        rw [List.getElem?_append_left (by omega)]
        exact hi i hi'
      · obtain rfl : j = n := by omega
        refine ⟨cs, hp, hcl, fun i hi' => ?_⟩
        rw [List.getElem?_append_right (by omega), hl, Nat.add_sub_cancel_left]

section
variable {α : Type} {ρ : Rep α} {w w' : World} {Z Zr : Nat → Prop}
theorem Slc.cells {A : Option Addr} {m : Nat} {l : List α} (h : Slc ρ w Zr A m l) (hlt : ∀ k, Zr k → k < w.heap.size) :
    ∃ xs, Reads w w.heap.size ρ.sz A m xs ∧ (∀ u ∈ xs, u.oneCell' = true) ∧ ∀ j x, l[j]? = some x → ∃ cs, ρ.R w Zr cs x ∧ ∀ i, i < ρ.sz → xs[j * ρ.sz + i]? = cs[i]? := by
  rcases Nat.eq_zero_or_pos m with h0 | h0
  · subst h0
    have hl : l = [] := List.eq_nil_of_length_eq_zero h.len
    subst hl
    exact ⟨[], ⟨by simp, fun h => absurd h (by omega)⟩, fun u hu => by simp at hu, fun j x hj => by simp at hj⟩
  · obtain ⟨b, off, rfl, hb, hc⟩ := h.at_ h0
    obtain ⟨xs, hl, hm, hx⟩ := exists_flat (P := fun j cs => ∃ x, l[j]? = some x ∧ ρ.R w Zr cs x ∧ ∀ i, i < ρ.sz → w.cell? ⟨b, off + j * ρ.sz + i, none⟩ = cs[i]?) (sz := ρ.sz) m (fun j hj => by
      obtain ⟨x, hx⟩ : ∃ x, l[j]? = some x := ⟨_, List.getElem?_eq_getElem (by rw [h.len]; exact hj)⟩
      obtain ⟨cs, hr, hi⟩ := hc j x hx
      exact ⟨cs, ρ.len hr, x, hx, hr, hi⟩)
    refine ⟨xs, ⟨hl, fun _ => ⟨_, rfl, hlt b hb, fun p u hp => ?_⟩⟩, fun u hu => ?_, fun j x hj => ?_⟩
    · have hlt' : p < m * ρ.sz := by
        rcases Nat.lt_or_ge p xs.length with h | h
        · omega
        · rw [List.getElem?_eq_none h] at hp; cases hp
      have hsz : 0 < ρ.sz := by
        rcases Nat.eq_zero_or_pos ρ.sz with h | h
        · rw [h] at hlt'; omega
        · exact h
      have hq : p / ρ.sz < m := Nat.div_lt_of_lt_mul (by rw [Nat.mul_comm]; exact hlt')
      obtain ⟨cs, ⟨x, hxl, hr, hi⟩, hcl, hxi⟩ := hx (p / ρ.sz) hq
      have hmod : p % ρ.sz < ρ.sz := Nat.mod_lt _ hsz
      have hp2 : p / ρ.sz * ρ.sz + p % ρ.sz = p := by rw [Nat.mul_comm]; exact Nat.div_add_mod p ρ.sz
      have h1 := hi (p % ρ.sz) hmod
      have h2 := hxi (p % ρ.sz) hmod
      rw [hp2] at h2
      rw [h2] at hp
      have ea : (⟨b, off, none⟩ : Addr).add p = ⟨b, off + p / ρ.sz * ρ.sz + p % ρ.sz, none⟩ := by
        rw [Nat.add_assoc, hp2]
        unfold Addr.add
        split
        · rename_i h; subst h; rfl
        · rfl
      rw [ea, h1, hp]
    · obtain ⟨j, cs, _, ⟨x, _, hr, _⟩, hc'⟩ := hm u hu
      exact ρ.one hr u hc'
    · have hj' : j < m := by
        rcases Nat.lt_or_ge j l.length with h' | h'
        · rw [h.len] at h'; exact h'
        · rw [List.getElem?_eq_none h'] at hj; cases hj
      obtain ⟨cs, ⟨x', hxl, hr, _⟩, _, hxi⟩ := hx j hj'
      rw [hj] at hxl
      cases hxl
      exact ⟨cs, hr, hxi⟩
/-- One thing in a block of its own. -/
theorem slc_temp {e : TypeId} {g : Nat} {cs : List Value} {x : α} (hg : w.heap[g]? = some (.cells cs.toArray e (0, 0))) (hr : ρ.R w Z cs x) (hZg : Z g) : Slc ρ w Z (some ⟨g, 0, none⟩) 1 [x] := by
  refine ⟨rfl, by unfold maxLen; omega, fun _ => ⟨g, 0, rfl, hZg, fun j y hj => ?_⟩⟩
  match j, hj with
  | 0, hj =>
    simp at hj
    subst hj
    refine ⟨cs, hr, fun i hi => ?_⟩
    rw [Nat.zero_mul, Nat.zero_add, cell_of_row w g i _ e (0, 0) hg]
    simp
  | j + 1, hj => simp at hj
/-- What the append leaves. -/
theorem ownL_of_rows {e : TypeId} {B : Nat} {Z' : Nat → Prop} {v v' : Value} {l l2 : List α} {xs news : List Value} (hx : w.ownsRow B e ρ.sz v l.length xs) (h1 : ∀ j x, l[j]? = some x → ∃ cs, ρ.R w Z cs x ∧ ∀ i, i < ρ.sz → xs[j * ρ.sz + i]? = cs[i]?)
    (h2 : ∀ j x, l2[j]? = some x → ∃ cs, ρ.R w Zr cs x ∧ ∀ i, i < ρ.sz → news[j * ρ.sz + i]? = cs[i]?) (ho : w'.ownsRow B e ρ.sz v' (l.length + l2.length) (xs ++ news)) (hg : w.grownBy w' v.ownBlock)
    (hZ : ∀ k, Z k → k < w.heap.size ∧ v.ownBlock ≠ some k) (hZr : ∀ k, Zr k → k < w.heap.size ∧ v.ownBlock ≠ some k) (hs : ∀ k, Z k → Z' k) (hs2 : ∀ k, Zr k → Z' k) (hsm : l.length + l2.length ≤ maxLen) : OwnL ρ e w' B Z' v' (l ++ l2) := by
  have k1 : Keeps Z w w' := fun k hk => hg.block k (hZ k hk).1 (fun e => (hZ k hk).2 e.symm)
  have k2 : Keeps Zr w w' := fun k hk => hg.block k (hZr k hk).1 (fun e => (hZr k hk).2 e.symm)
  have hxl : xs.length = l.length * ρ.sz := hx.1
  refine ⟨⟨xs ++ news, by rw [List.length_append]; exact ho, fun j x hj => ?_⟩, by rw [List.length_append]; exact hsm⟩
  rcases Nat.lt_or_ge j l.length with hlt | hge
  · rw [List.getElem?_append_left hlt] at hj
    obtain ⟨cs, hr, hi⟩ := h1 j x hj
    refine ⟨cs, ρ.keep hr k1 hs, fun i hi' => ?_⟩
    have : (j + 1) * ρ.sz ≤ l.length * ρ.sz := Nat.mul_le_mul_right _ hlt
    rw [Nat.add_mul] at this
    rw [List.getElem?_append_left (by omega)]
    exact hi i hi'
  · rw [List.getElem?_append_right hge] at hj
    obtain ⟨cs, hr, hi⟩ := h2 _ x hj
    refine ⟨cs, ρ.keep hr k2 hs2, fun i hi' => ?_⟩
    have : l.length * ρ.sz ≤ j * ρ.sz := Nat.mul_le_mul_right _ hge
    have e : (j - l.length) * ρ.sz = j * ρ.sz - l.length * ρ.sz := Nat.sub_mul ..
    rw [List.getElem?_append_right (by omega), ← hi i hi', e]
    congr 1
    omega
end

/-- More things: the source is any slice that reads as such. -/
theorem wpList_append_l {P : Program} (w : World) {ops : Array Oper} {rest : List Oper} {o : Oper} {a : Act} {Q : Exit → Act → World → Prop} (hgd : o.guard = none) (s y : Operand) (t : TypeId)
    (ho : o.op = .call { callee := .builtin .append, args := #[s, y], argTypes := #[t, t] }) {α : Type} (ρ : Rep α) (e : TypeId)
    (i : TypeInfo) (z : Value) (bytes : Nat) (ht : P.underlying t = some (.slice e)) (hi : P.info? e = some i) (hz : i.zero = some z) (hsize : i.size = ρ.sz) (hby : i.bytes = bytes) (hzc : z.cells.size = ρ.sz) (hsz : 0 < ρ.sz)
    (B : Nat) (Z : Nat → Prop) (v : Value) (l : List α) (hs : a.eval s = v) (hown : OwnL ρ e w B Z v l) (Zr : Nat → Prop) (A : Option Addr) (m c : Nat) (l2 : List α) (hx : a.eval y = .slice A m c) (hr : Slc ρ w Zr A m l2)
    (hZ : ∀ k, Z k → k < w.heap.size ∧ v.ownBlock ≠ some k) (hZr : ∀ k, Zr k → k < w.heap.size ∧ v.ownBlock ≠ some k) (hlen : (l.length + l2.length) * bytes ≤ 140737488355328) (hsm : l.length + l2.length ≤ maxLen) (hbase : B ≤ w.heap.size)
    (h : ∀ v' w', (∀ Z', (∀ k, Z k → Z' k) → (∀ k, Zr k → Z' k) → OwnL ρ e w' B Z' v' (l ++ l2)) → w.grownBy w' v.ownBlock → (v'.ownBlock = v.ownBlock ∨ v'.ownBlock = some w.heap.size) → wpList P ops Q rest (a.put o.dst v') w') : wpList P ops Q (o :: rest) a w := by
  obtain ⟨xs, hxo, hxr⟩ := hown.own
  obtain ⟨news, hrd, hone, hnr⟩ := hr.cells (fun k hk => (hZr k hk).1)
  have hm := hr.len
  refine wpList_append_any w hgd s y t ho B e i z ρ.sz bytes ht hi hz hsize hby hzc hsz v l.length xs hs hxo w.heap.size A m c news hx hrd hone (by omega) (by rw [← hm]; exact hlen) hbase ?_
  intro v' w' h1 h2 h3
  exact h v' w' (fun Z' q1 q2 => ownL_of_rows hxo hxr hnr (by rw [hm]; exact h1) h2 hZ hZr q1 q2 hsm) h2 h3
/-- The same at a step of a region that draws. -/
theorem step_append_l {P : Program} (w : World) {ops : Array Oper} {o : Oper} {a : Act} {K : Act → World → Prop} {Q : Exit → Act → World → Prop} {E : Prop} (hgd : o.guard = none) (s y : Operand) (t : TypeId)
    (ho : o.op = .call { callee := .builtin .append, args := #[s, y], argTypes := #[t, t] }) {α : Type} (ρ : Rep α) (e : TypeId)
    (i : TypeInfo) (z : Value) (bytes : Nat) (ht : P.underlying t = some (.slice e)) (hi : P.info? e = some i) (hz : i.zero = some z) (hsize : i.size = ρ.sz) (hby : i.bytes = bytes) (hzc : z.cells.size = ρ.sz) (hsz : 0 < ρ.sz)
    (B : Nat) (Z : Nat → Prop) (v : Value) (l : List α) (hs : a.eval s = v) (hown : OwnL ρ e w B Z v l) (Zr : Nat → Prop) (A : Option Addr) (m c : Nat) (l2 : List α) (hx : a.eval y = .slice A m c) (hr : Slc ρ w Zr A m l2)
    (hZ : ∀ k, Z k → k < w.heap.size ∧ v.ownBlock ≠ some k) (hZr : ∀ k, Zr k → k < w.heap.size ∧ v.ownBlock ≠ some k) (hlen : (l.length + l2.length) * bytes ≤ 140737488355328) (hsm : l.length + l2.length ≤ maxLen) (hbase : B ≤ w.heap.size)
    (h : ∀ v' w', (∀ Z', (∀ k, Z k → Z' k) → (∀ k, Zr k → Z' k) → OwnL ρ e w' B Z' v' (l ++ l2)) → w.grownBy w' v.ownBlock → (v'.ownBlock = v.ownBlock ∨ v'.ownBlock = some w.heap.size) → K (a.put o.dst v') w') :
    if Region.wanted o (yielded ops a.tmps) = true then Oper.wp P o a w K Q else E := by
  obtain ⟨xs, hxo, hxr⟩ := hown.own
  obtain ⟨news, hrd, hone, hnr⟩ := hr.cells (fun k hk => (hZr k hk).1)
  have hm := hr.len
  refine step_append_any w hgd s y t ho B e i z ρ.sz bytes ht hi hz hsize hby hzc hsz v l.length xs hs hxo w.heap.size A m c news hx hrd hone (by omega) (by rw [← hm]; exact hlen) hbase ?_
  intro v' w' h1 h2 h3
  exact h v' w' (fun Z' q1 q2 => ownL_of_rows hxo hxr hnr (by rw [hm]; exact h1) h2 hZ hZr q1 q2 hsm) h2 h3
end Go.Proofs.Ytkcnpnnflbibiaa

/- How tensors, attributes, nodes, values and graphs lie in cells. -/
namespace Go.Proofs.Ytkcnpnnflbibiaa
open Go.RowKit

def repInt : Rep Int where
  sz := 1
  R := fun _ _ cs x => cs = [.int .i64 x]
  len := by intro _ _ cs x h; rw [h]; rfl
  one := by intro _ _ cs x h u hu; rw [h] at hu; simp at hu; subst hu; rfl
  keep := by intro _ _ _ _ _ _ h _ _; exact h
def repStr : Rep ByteArray where
  sz := 1
  R := fun _ _ cs x => cs = [.string x]
  len := by intro _ _ cs x h; rw [h]; rfl
  one := by intro _ _ cs x h u hu; rw [h] at hu; simp at hu; subst hu; rfl
  keep := by intro _ _ _ _ _ _ h _ _; exact h

/-- A value that is a slice. -/
def IsSlc {α : Type} (ρ : Rep α) (w : World) (Z : Nat → Prop) (v : Value) (l : List α) : Prop := ∃ A n c, v = .slice A n c ∧ Slc ρ w Z A n l
theorem IsSlc.keep {α : Type} {ρ : Rep α} {w w' : World} {Z Z' : Nat → Prop} {v : Value} {l : List α} (h : IsSlc ρ w Z v l) (hk : Keeps Z w w') (hZ : ∀ k, Z k → Z' k) : IsSlc ρ w' Z' v l := by
  obtain ⟨A, n, c, e, hs⟩ := h
  exact ⟨A, n, c, e, hs.keep hk hZ⟩
theorem IsSlc.one {α : Type} {ρ : Rep α} {w : World} {Z : Nat → Prop} {v : Value} {l : List α} (h : IsSlc ρ w Z v l) : v.oneCell' = true := by
  obtain ⟨A, n, c, rfl, _⟩ := h; rfl

/-- A tensor. -/
structure Tn where
  typ : Int
  dims : List Int
  data : List Int
def repTn : Rep Tn where
  sz := 3
  R := fun w Z cs t => ∃ d e, cs = [.int .i64 t.typ, d, e] ∧ IsSlc repInt w Z d t.dims ∧ IsSlc repInt w Z e t.data
  len := by rintro _ _ _ _ ⟨d, e, rfl, _⟩; rfl
  one := by
    rintro _ _ _ _ ⟨d, e, rfl, h1, h2⟩ u hu
    simp at hu
    rcases hu with rfl | rfl | rfl
    · rfl
    · exact h1.one
    · exact h2.one
  keep := by
    rintro _ _ _ _ _ _ ⟨d, e, rfl, h1, h2⟩ hk hZ
    exact ⟨d, e, rfl, h1.keep hk hZ, h2.keep hk hZ⟩
/-- A tensor with a name. -/
structure Nm where
  name : ByteArray
  t : Tn
def repNm : Rep Nm where
  sz := 4
  R := fun w Z cs t => ∃ d e, cs = [.string t.name, .int .i64 t.t.typ, d, e] ∧ IsSlc repInt w Z d t.t.dims ∧ IsSlc repInt w Z e t.t.data
  len := by rintro _ _ _ _ ⟨d, e, rfl, _⟩; rfl
  one := by
    rintro _ _ _ _ ⟨d, e, rfl, h1, h2⟩ u hu
    simp at hu
    rcases hu with rfl | rfl | rfl | rfl
    · rfl
    · rfl
    · exact h1.one
    · exact h2.one
  keep := by
    rintro _ _ _ _ _ _ ⟨d, e, rfl, h1, h2⟩ hk hZ
    exact ⟨d, e, rfl, h1.keep hk hZ, h2.keep hk hZ⟩
/-- A value: name, type, dimensions. -/
structure Vl where
  name : ByteArray
  typ : Int
  dims : List Int
def repVl : Rep Vl where
  sz := 3
  R := fun w Z cs t => ∃ d, cs = [.string t.name, .int .i64 t.typ, d] ∧ IsSlc repInt w Z d t.dims
  len := by rintro _ _ _ _ ⟨d, rfl, _⟩; rfl
  one := by
    rintro _ _ _ _ ⟨d, rfl, h1⟩ u hu
    simp at hu
    rcases hu with rfl | rfl | rfl
    · rfl
    · rfl
    · exact h1.one
  keep := by
    rintro _ _ _ _ _ _ ⟨d, rfl, h1⟩ hk hZ
    exact ⟨d, rfl, h1.keep hk hZ⟩
/-- An attribute. -/
structure At where
  name : ByteArray
  kind : Int
  f : Int
  i : Int
  s : ByteArray
  t : Tn
  ints : List Int
def repAt : Rep At where
  sz := 9
  R := fun w Z cs a => ∃ d e g, cs = [.string a.name, .int .i64 a.kind, .int .i64 a.f, .int .i64 a.i, .string a.s, .int .i64 a.t.typ, d, e, g] ∧ IsSlc repInt w Z d a.t.dims ∧ IsSlc repInt w Z e a.t.data ∧ IsSlc repInt w Z g a.ints
  len := by rintro _ _ _ _ ⟨d, e, g, rfl, _⟩; rfl
  one := by
    rintro _ _ _ _ ⟨d, e, g, rfl, h1, h2, h3⟩ u hu
    simp at hu
    rcases hu with rfl | rfl | rfl | rfl | rfl | rfl | rfl | rfl | rfl
    · rfl
    · rfl
    · rfl
    · rfl
    · rfl
    · rfl
    · exact h1.one
    · exact h2.one
    · exact h3.one
  keep := by
    rintro _ _ _ _ _ _ ⟨d, e, g, rfl, h1, h2, h3⟩ hk hZ
    exact ⟨d, e, g, rfl, h1.keep hk hZ, h2.keep hk hZ, h3.keep hk hZ⟩
/-- A node. -/
structure Nd where
  op : ByteArray
  name : ByteArray
  ins : List ByteArray
  out : ByteArray
  attrs : List At
def repNd : Rep Nd where
  sz := 5
  R := fun w Z cs a => ∃ d e, cs = [.string a.op, .string a.name, d, .string a.out, e] ∧ IsSlc repStr w Z d a.ins ∧ IsSlc repAt w Z e a.attrs
  len := by rintro _ _ _ _ ⟨d, e, rfl, _⟩; rfl
  one := by
    rintro _ _ _ _ ⟨d, e, rfl, h1, h2⟩ u hu
    simp at hu
    rcases hu with rfl | rfl | rfl | rfl | rfl
    · rfl
    · rfl
    · exact h1.one
    · rfl
    · exact h2.one
  keep := by
    rintro _ _ _ _ _ _ ⟨d, e, rfl, h1, h2⟩ hk hZ
    exact ⟨d, e, rfl, h1.keep hk hZ, h2.keep hk hZ⟩
/-- A graph. -/
structure Gr where
  name : ByteArray
  nodes : List Nd
  ins : List Vl
  outs : List Vl
  inits : List Nm
def repGr : Rep Gr where
  sz := 5
  R := fun w Z cs a => ∃ d e g h, cs = [.string a.name, d, e, g, h] ∧ IsSlc repNd w Z d a.nodes ∧ IsSlc repVl w Z e a.ins ∧ IsSlc repVl w Z g a.outs ∧ IsSlc repNm w Z h a.inits
  len := by rintro _ _ _ _ ⟨d, e, g, h, rfl, _⟩; rfl
  one := by
    rintro _ _ _ _ ⟨d, e, g, h, rfl, h1, h2, h3, h4⟩ u hu
    simp at hu
    rcases hu with rfl | rfl | rfl | rfl | rfl
    · rfl
    · exact h1.one
    · exact h2.one
    · exact h3.one
    · exact h4.one
  keep := by
    rintro _ _ _ _ _ _ ⟨d, e, g, h, rfl, h1, h2, h3, h4⟩ hk hZ
    exact ⟨d, e, g, h, rfl, h1.keep hk hZ, h2.keep hk hZ, h3.keep hk hZ, h4.keep hk hZ⟩
end Go.Proofs.Ytkcnpnnflbibiaa
