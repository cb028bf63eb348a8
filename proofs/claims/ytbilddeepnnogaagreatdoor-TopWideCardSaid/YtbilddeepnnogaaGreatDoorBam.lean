import Derived.Test.YtbilddeepnnogaaGreatDoorChecked
import Derived.WalkKit
import Derived.WalkSpells
import Derived.WalkLawsBesides
import Derived.Lib.Hide
import Derived.Deep.AppendLies
import Derived.Deep.Draws
import Derived.Maps.AppendAt
import Derived.Laws.OwnMore
import Derived.RegionTactic
import Derived.OwnWalk
set_option linter.unusedVariables false
set_option linter.unusedSimpArgs false
/- Nested data in memory: how a thing lies in cells, slices of such things, slices of the call's own. Nested data in memory: appends. The first parts are turned from the guide's words. How tensors, attributes, nodes, values and graphs lie in cells. -/
section
set_option linter.unusedVariables false
/- Nested data in memory: how a thing lies in cells, slices of such things, slices of the call's own. -/
namespace Go.Proofs.YtbilddeepnnogaaGreatDoor
open Go.RowKit

/-- Two worlds alike on the blocks of a set. -/
def Keeps (Z : Nat → Prop) (w w' : World) : Prop := ∀ k, Z k → w'.heap[k]? = w.heap[k]?
theorem Keeps.cell {Z : Nat → Prop} {w w' : World} (h : Keeps Z w w') {a : Addr} (ha : Z a.block) : w'.cell? a = w.cell? a := World.cell?_of_block (h _ ha)

/-- How a thing lies in cells. -/
structure Rep (α : Type) where
  sz : Nat
  R : World → (Nat → Prop) → List Value → α → Prop
  len : ∀ {w : World} {Z : Nat → Prop} {cs : List Value} {x : α}, R w Z cs x → cs.length = sz
  one : ∀ {w : World} {Z : Nat → Prop} {cs : List Value} {x : α}, R w Z cs x → ∀ u ∈ cs, u.oneCell' = true
  keep : ∀ {w w' : World} {Z Z' : Nat → Prop} {cs : List Value} {x : α}, R w Z cs x → Keeps Z w w' → (∀ k, Z k → Z' k) → R w' Z' cs x

/-- The slice value '.slice A n c' reads as the list l in the world w, in the blocks Z. -/
structure Slc {α : Type} (ρ : Rep α) (w : World) (Z : Nat → Prop) (A : Option Addr) (n : Nat) (l : List α) : Prop where
  len : l.length = n
  small : n ≤ maxLen
  at_ : 0 < n → ∃ b off, A = some ⟨b, off, none⟩ ∧ Z b ∧ ∀ j x, l[j]? = some x → ∃ cs, ρ.R w Z cs x ∧ ∀ i, i < ρ.sz → w.cell? ⟨b, off + j * ρ.sz + i, none⟩ = cs[i]?

section
variable {α : Type} {ρ : Rep α} {w w' : World} {Z Z' : Nat → Prop} {A : Option Addr} {n : Nat} {l : List α}
theorem Slc.keep (h : Slc ρ w Z A n l) (hk : Keeps Z w w') (hZ : ∀ k, Z k → Z' k) : Slc ρ w' Z' A n l :=
  ⟨h.len, h.small, fun hn => by
    obtain ⟨b, off, e, hb, hc⟩ := h.at_ hn
    refine ⟨b, off, e, hZ b hb, fun j x hj => ?_⟩
    obtain ⟨cs, hr, hi⟩ := hc j x hj
    exact ⟨cs, ρ.keep hr hk hZ, fun i hi' => (hk.cell (a := ⟨b, off + j * ρ.sz + i, none⟩) hb).trans (hi i hi')⟩⟩
theorem Slc.nil_ : Slc ρ w Z A 0 [] := ⟨rfl, Nat.zero_le _, fun h => absurd h (by omega)⟩
theorem Slc.get (h : Slc ρ w Z A n l) {k : Nat} (hk : k < n) : ∃ b off x cs, A = some ⟨b, off, none⟩ ∧ Z b ∧ l[k]? = some x ∧ ρ.R w Z cs x ∧ ∀ i, i < ρ.sz → w.cell? ⟨b, off + k * ρ.sz + i, none⟩ = cs[i]? := by
  obtain ⟨b, off, e, hb, hc⟩ := h.at_ (by omega)
  obtain ⟨x, hx⟩ : ∃ x, l[k]? = some x := ⟨_, List.getElem?_eq_getElem (by rw [h.len]; exact hk)⟩
  obtain ⟨cs, hr, hi⟩ := hc k x hx
  exact ⟨b, off, x, cs, e, hb, hx, hr, hi⟩
end

/-- The call's own slice. -/
structure OwnL {α : Type} (ρ : Rep α) (e : TypeId) (w : World) (B : Nat) (Z : Nat → Prop) (v : Value) (l : List α) : Prop where
  own : ∃ xs, w.ownsRow B e ρ.sz v l.length xs ∧ ∀ j x, l[j]? = some x → ∃ cs, ρ.R w Z cs x ∧ ∀ i, i < ρ.sz → xs[j * ρ.sz + i]? = cs[i]?
  small : l.length ≤ maxLen
  nil : l = [] → v = .slice none 0 0

section
variable {α : Type} {ρ : Rep α} {e : TypeId} {w w' : World} {B : Nat} {Z Z' : Nat → Prop} {v : Value} {l : List α}
theorem ownL_nil : OwnL ρ e w B Z (.slice none 0 0) [] := ⟨⟨[], by simpa using World.ownsRow_nil w B e ρ.sz, fun j x h => by simp at h⟩, Nat.zero_le _, fun _ => rfl⟩
theorem OwnL.form (h : OwnL ρ e w B Z v l) : ∃ A c, v = .slice A l.length c := by
  obtain ⟨xs, hx, _⟩ := h.own
  rcases hx.2 with ⟨rfl, hn⟩ | ⟨g, cap, cur, rfl, _⟩
  · exact ⟨none, 0, by rw [hn]⟩
  · exact ⟨_, _, rfl⟩
theorem OwnL.lt (h : OwnL ρ e w B Z v l) : ∀ k, v.ownBlock = some k → B ≤ k ∧ k < w.heap.size := by
  obtain ⟨xs, hx, _⟩ := h.own
  exact hx.lt
theorem OwnL.keep (h : OwnL ρ e w B Z v l) (hv : ∀ k, v.ownBlock = some k → w'.heap[k]? = w.heap[k]?) (hk : Keeps Z w w') (hZ : ∀ k, Z k → Z' k) : OwnL ρ e w' B Z' v l := by
  obtain ⟨xs, hx, hr⟩ := h.own
  refine ⟨⟨xs, ⟨hx.1, ?_⟩, fun j x hj => ?_⟩, h.small, h.nil⟩
  · rcases hx.2 with h1 | ⟨g, cap, cur, e1, hB, hg, r⟩
    · exact .inl h1
    · exact .inr ⟨g, cap, cur, e1, hB, (hv g (by rw [e1]; rfl)).trans hg, r⟩
  · obtain ⟨cs, h1, h2⟩ := hr j x hj
    exact ⟨cs, ρ.keep h1 hk hZ, h2⟩
theorem OwnL.mono (h : OwnL ρ e w B Z v l) (hZ : ∀ k, Z k → Z' k) : OwnL ρ e w B Z' v l := h.keep (fun _ _ => rfl) (fun _ _ => rfl) hZ
theorem OwnL.lower {B' : Nat} (h : OwnL ρ e w B Z v l) (hB : B' ≤ B) : OwnL ρ e w B' Z v l := by
  obtain ⟨xs, hx, hr⟩ := h.own
  refine ⟨⟨xs, ⟨hx.1, ?_⟩, hr⟩, h.small, h.nil⟩
  rcases hx.2 with h1 | ⟨g, cap, cur, e1, hb, r⟩
  · exact .inl h1
  · exact .inr ⟨g, cap, cur, e1, by omega, r⟩
/-- Read. -/
theorem OwnL.slc {A : Option Addr} {n c : Nat} (h : OwnL ρ e w B Z (.slice A n c) l) (hn : n = l.length) (hsz : 0 < ρ.sz) (hZ : ∀ k, Z k → Z' k) (hv : ∀ a, A = some a → Z' a.block) : Slc ρ w Z' A n l := by
  subst hn
  obtain ⟨xs, hx, hr⟩ := h.own
  refine ⟨rfl, h.small, fun hn => ?_⟩
  rcases hx.2 with ⟨_, h0⟩ | ⟨g, cap, cur, e1, _, hg, _⟩
  · omega
  · simp only [Value.slice.injEq] at e1
    obtain ⟨rfl, _, rfl⟩ := e1
    refine ⟨g, 0, rfl, hv _ rfl, fun j x hj => ?_⟩
    obtain ⟨cs, h1, h2⟩ := hr j x hj
    have hlt : j < l.length := by
      rcases Nat.lt_or_ge j l.length with h | h
      · exact h
      · rw [List.getElem?_eq_none h] at hj; cases hj
    refine ⟨cs, ρ.keep h1 (fun _ _ => rfl) hZ, fun i hi => ?_⟩
    rw [Nat.zero_add, hx.cellAt (j * ρ.sz + i) (by
      have : (j + 1) * ρ.sz ≤ l.length * ρ.sz := Nat.mul_le_mul_right _ hlt
      rw [Nat.add_mul] at this
      omega)]
    exact h2 i hi
end
end Go.Proofs.YtbilddeepnnogaaGreatDoor

/- Nested data in memory: appends. The first parts are turned from the guide's words. -/
namespace Go.Proofs.YtbilddeepnnogaaGreatDoor
open Go.RowKit

theorem block_of_add (a : Addr) (n : Nat) : (a.add n).block = a.block := by unfold Addr.add; split <;> rfl
theorem add_of_add (a : Addr) (i j : Nat) : (a.add i).add j = a.add (i + j) := by
  unfold Addr.add
  by_cases hi : i = 0 <;> by_cases hj : j = 0 <;> simp [hi, hj, Nat.add_assoc]

def Reads (w : World) (B size : Nat) (A : Option Addr) (n : Nat) (xs : List Value) : Prop :=
  xs.length = n * size ∧ (0 < n → ∃ ad, A = some ad ∧ ad.block < B ∧ ∀ j u, xs[j]? = some u → w.cell? (ad.add j) = some u)

section
variable {w w' : World} {B B' size n : Nat} {A : Option Addr} {xs : List Value}
theorem Reads.none_ : Reads w B size A 0 [] := ⟨by simp, fun h => absurd h (by omega)⟩
theorem Reads.at_ {k : Nat} (h : Reads w B 1 A n xs) (hk : k < n) : ∃ ad u, A = some ad ∧ ad.block < B ∧ xs[k]? = some u ∧ w.cell? (ad.add k) = some u := by
  obtain ⟨ad, e, hb, hc⟩ := h.2 (by omega)
  have hl : k < xs.length := by have := h.1; omega
  exact ⟨ad, xs[k], e, hb, List.getElem?_eq_getElem hl, hc k _ (List.getElem?_eq_getElem hl)⟩
theorem Reads.keep (h : Reads w B size A n xs) (hk : ∀ p : Addr, p.block < B → w'.cell? p = w.cell? p) : Reads w' B size A n xs :=
  ⟨h.1, fun hn => by
    obtain ⟨ad, e, hb, hc⟩ := h.2 hn
    exact ⟨ad, e, hb, fun j u hu => (hk _ (by rw [block_of_add]; exact hb)).trans (hc j u hu)⟩⟩
theorem Reads.more (h : Reads w B size A n xs) (hB : B ≤ B') : Reads w B' size A n xs :=
  ⟨h.1, fun hn => by
    obtain ⟨ad, e, hb, hc⟩ := h.2 hn
    exact ⟨ad, e, by omega, hc⟩⟩
theorem Reads.below (h : Reads w B size A n xs) (hb : Below B w w') : Reads w' B size A n xs := h.keep fun _ hp => hb.cell hp
theorem Reads.drew (h : Reads w B size A n xs) : Reads w.drew B size A n xs := h
theorem Reads.drewN (h : Reads w B size A n xs) (k : Nat) : Reads (w.drewN k) B size A n xs := h
theorem Reads.alloc (h : Reads w B size A n xs) (hB : B ≤ w.heap.size) (o : Obj) : Reads (w.alloc o) B size A n xs := h.keep fun p hp => World.cell?_alloc_lt w o p (by omega)
theorem Reads.setCell (h : Reads w B size A n xs) {p : Addr} (hB : B ≤ p.block) (u : Value) : Reads (w.setCell p u) B size A n xs :=
  h.keep fun q hq => World.cell?_setCell_other w p q u (fun e => by subst e; omega)
theorem Reads.grown (h : Reads w B size A n xs) {row : Option Nat} (hg : w.grownBy w' row) (hB : B ≤ w.heap.size) (hr : ∀ g, row = some g → B ≤ g) : Reads w' B size A n xs :=
  h.keep fun p hp => World.cell?_of_block (hg.block p.block (by omega) (fun e => by have := hr _ e.symm; omega))
theorem Reads.cut (h : Reads w B size A n xs) {k cap : Nat} (hk : k ≤ n) (hc : n ≤ cap) :
    Reads w B size (if cap = k then A else A.map (·.add (k * size))) (n - k) (xs.drop (k * size)) := by
  refine ⟨by rw [List.length_drop, h.1, Nat.sub_mul], fun hn => ?_⟩
  obtain ⟨ad, rfl, hb, hcell⟩ := h.2 (by omega)
  rw [if_neg (by omega)]
  refine ⟨ad.add (k * size), rfl, by rw [block_of_add]; exact hb, fun j u hu => ?_⟩
  rw [add_of_add]
  exact hcell _ u (by rw [← hu, List.getElem?_drop])
theorem Reads.of_own {base : Nat} {e : TypeId} {c : Nat} (h : w.ownsRow base e size (.slice A n c) n xs) : Reads w w.heap.size size A n xs := by
  refine ⟨h.1, fun hn => ?_⟩
  obtain ⟨g, cap, hv, _, hlt⟩ := h.form hn
  have hA : A = some ⟨g, 0, none⟩ := by injection hv
  subst hA
  exact ⟨_, rfl, hlt, h.cells (g := g) rfl⟩
end

section
variable {P : Program} (w : World)

theorem run_append_of_nil (base : Nat) (t ty e : TypeId) (i : TypeInfo) (size : Nat) (ht : P.underlying t = some (.slice e)) (hi : P.info? e = some i)
    (v : Value) (n : Nat) (xs : List Value) (hown : w.ownsRow base e size v n xs) (c : Nat) : (Builtin.append_ #[t, t] ty #[v, .slice none 0 c]).run P w = .ok v w := by
  rcases hown.2 with ⟨rfl, rfl⟩ | ⟨g, cap, cur, rfl, _, _, hnc, _⟩
  · simp [Builtin.append_, run_underlying ht, sizeOf, typeInfo, hi, Builtin.lenOf, Builtin.firstCells]
  · simp [Builtin.append_, run_underlying ht, sizeOf, typeInfo, hi, Builtin.lenOf, Builtin.firstCells, hnc, storeCells]

theorem run_append_any (base : Nat) (t ty e : TypeId) (i : TypeInfo) (z : Value) (size bytes : Nat) (ht : P.underlying t = some (.slice e)) (hi : P.info? e = some i) (hz : i.zero = some z)
    (hsize : i.size = size) (hby : i.bytes = bytes) (hzs : z.cells.size = size) (hsz : 0 < size)
    (v : Value) (n : Nat) (xs : List Value) (hown : w.ownsRow base e size v n xs)
    (B : Nat) (A : Option Addr) (m c : Nat) (news : List Value) (hr : Reads w B size A m news) (h1 : ∀ u ∈ news, u.oneCell' = true)
    (h63 : n + m ≤ maxLen) (hbytes : (n + m) * bytes ≤ 140737488355328) (hbase : base ≤ w.heap.size) :
    ∃ v' w', (Builtin.append_ #[t, t] ty #[v, .slice A m c]).run P w = .ok v' w' ∧ w'.ownsRow base e size v' (n + m) (xs ++ news) ∧ w.grownBy w' v.ownBlock ∧
      (v'.ownBlock = v.ownBlock ∨ v'.ownBlock = some w.heap.size) ∧ (m = 0 → v = .slice none 0 0 → v' = .slice none 0 0) := by
  rcases A with _ | ad
  · have hm : m = 0 := by
      rcases Nat.eq_zero_or_pos m with h0 | h0
      · exact h0
      · obtain ⟨ad, h, _⟩ := hr.2 h0
        cases h
    subst hm
    have hn : news = [] := List.eq_nil_of_length_eq_zero (by simpa using hr.1)
    subst hn
    exact ⟨v, w, run_append_of_nil w base t ty e i size ht hi v n xs hown c, by simpa using hown, World.grownBy.refl w _, .inl rfl, fun _ h => h⟩
  · have hcells : ∀ j u, news[j]? = some u → w.cell? (ad.add j) = some u := by
      intro j u hu
      rcases Nat.eq_zero_or_pos m with h0 | h0
      · subst h0
        have hn : news = [] := List.eq_nil_of_length_eq_zero (by simpa using hr.1)
        subst hn
        simp at hu
      · obtain ⟨ad', h, _, hc⟩ := hr.2 h0
        injection h with h
        subst h
        exact hc j u hu
    obtain ⟨v', w', hrun, h2, h3, h4, h5⟩ := run_append_own_at (P := P) w base t ty e i z size bytes ht hi hz hsize hby hzs hsz v n xs hown ad m c news hr.1 hcells h1 h63 hbytes hbase
    exact ⟨v', w', hrun, h2, h3, h5, fun e1 e2 => h4.2 ⟨e2, e1⟩⟩

theorem wp_append_any {o : Oper} {a : Act} {K : Act → World → Prop} {Q : Exit → Act → World → Prop} (s x : Operand) (t : TypeId)
    (ho : o.op = .call { callee := .builtin .append, args := #[s, x], argTypes := #[t, t] })
    (base : Nat) (e : TypeId) (i : TypeInfo) (z : Value) (size bytes : Nat) (ht : P.underlying t = some (.slice e)) (hi : P.info? e = some i) (hz : i.zero = some z)
    (hsize : i.size = size) (hby : i.bytes = bytes) (hzs : z.cells.size = size) (hsz : 0 < size)
    (v : Value) (n : Nat) (xs : List Value) (hs : a.eval s = v) (hown : w.ownsRow base e size v n xs)
    (B : Nat) (A : Option Addr) (m c : Nat) (news : List Value) (hx : a.eval x = .slice A m c) (hr : Reads w B size A m news) (h1 : ∀ u ∈ news, u.oneCell' = true)
    (h63 : n + m ≤ maxLen) (hbytes : (n + m) * bytes ≤ 140737488355328) (hbase : base ≤ w.heap.size)
    (h : ∀ v' w', w'.ownsRow base e size v' (n + m) (xs ++ news) → w.grownBy w' v.ownBlock → (v'.ownBlock = v.ownBlock ∨ v'.ownBlock = some w.heap.size) → (m = 0 → v = .slice none 0 0 → v' = .slice none 0 0) → K (a.put o.dst v') w') : o.wp P a w K Q := by
  obtain ⟨v', w', hrun, h2, h3, h4, h6⟩ := run_append_any (P := P) w base t o.type e i z size bytes ht hi hz hsize hby hzs hsz v n xs hown B A m c news hr h1 h63 hbytes hbase
  unfold Oper.wp execOp
  simp only [ho, resolve, invoke, builtin, Sem.run_bind, Sem.run_pure, Result.andThen_ok, List.map_toArray, List.map_cons, List.map_nil, hs, hx, hrun]
  exact h v' w' h2 h3 h4 h6

theorem wpList_append_any {ops : Array Oper} {rest : List Oper} {o : Oper} {a : Act} {Q : Exit → Act → World → Prop} (hgd : o.guard = none) (s x : Operand) (t : TypeId)
    (ho : o.op = .call { callee := .builtin .append, args := #[s, x], argTypes := #[t, t] })
    (base : Nat) (e : TypeId) (i : TypeInfo) (z : Value) (size bytes : Nat) (ht : P.underlying t = some (.slice e)) (hi : P.info? e = some i) (hz : i.zero = some z)
    (hsize : i.size = size) (hby : i.bytes = bytes) (hzs : z.cells.size = size) (hsz : 0 < size)
    (v : Value) (n : Nat) (xs : List Value) (hs : a.eval s = v) (hown : w.ownsRow base e size v n xs)
    (B : Nat) (A : Option Addr) (m c : Nat) (news : List Value) (hx : a.eval x = .slice A m c) (hr : Reads w B size A m news) (h1 : ∀ u ∈ news, u.oneCell' = true)
    (h63 : n + m ≤ maxLen) (hbytes : (n + m) * bytes ≤ 140737488355328) (hbase : base ≤ w.heap.size)
    (h : ∀ v' w', w'.ownsRow base e size v' (n + m) (xs ++ news) → w.grownBy w' v.ownBlock → (v'.ownBlock = v.ownBlock ∨ v'.ownBlock = some w.heap.size) → (m = 0 → v = .slice none 0 0 → v' = .slice none 0 0) → wpList P ops Q rest (a.put o.dst v') w') : wpList P ops Q (o :: rest) a w :=
  wpList_plain hgd fun _ hK => wp_append_any w s x t ho base e i z size bytes ht hi hz hsize hby hzs hsz v n xs hs hown B A m c news hx hr h1 h63 hbytes hbase fun v' w' h2 h3 h4 h6 => hK _ _ (h v' w' h2 h3 h4 h6)

theorem step_append_any {ops : Array Oper} {o : Oper} {a : Act} {K : Act → World → Prop} {Q : Exit → Act → World → Prop} {E : Prop} (hgd : o.guard = none) (s x : Operand) (t : TypeId)
    (ho : o.op = .call { callee := .builtin .append, args := #[s, x], argTypes := #[t, t] })
    (base : Nat) (e : TypeId) (i : TypeInfo) (z : Value) (size bytes : Nat) (ht : P.underlying t = some (.slice e)) (hi : P.info? e = some i) (hz : i.zero = some z)
    (hsize : i.size = size) (hby : i.bytes = bytes) (hzs : z.cells.size = size) (hsz : 0 < size)
    (v : Value) (n : Nat) (xs : List Value) (hs : a.eval s = v) (hown : w.ownsRow base e size v n xs)
    (B : Nat) (A : Option Addr) (m c : Nat) (news : List Value) (hx : a.eval x = .slice A m c) (hr : Reads w B size A m news) (h1 : ∀ u ∈ news, u.oneCell' = true)
    (h63 : n + m ≤ maxLen) (hbytes : (n + m) * bytes ≤ 140737488355328) (hbase : base ≤ w.heap.size)
    (h : ∀ v' w', w'.ownsRow base e size v' (n + m) (xs ++ news) → w.grownBy w' v.ownBlock → (v'.ownBlock = v.ownBlock ∨ v'.ownBlock = some w.heap.size) → (m = 0 → v = .slice none 0 0 → v' = .slice none 0 0) → K (a.put o.dst v') w') :
    if Region.wanted o (yielded ops a.tmps) = true then Oper.wp P o a w K Q else E := by
  have hw : Region.wanted o (yielded ops a.tmps) = true := by simp [Region.wanted, hgd]
  rw [if_pos hw]
  exact wp_append_any w s x t ho base e i z size bytes ht hi hz hsize hby hzs hsz v n xs hs hown B A m c news hx hr h1 h63 hbytes hbase h
end

/-- Rows of cells put together. -/
theorem exists_flat {P : Nat → List Value → Prop} {sz : Nat} : ∀ n : Nat, (∀ j, j < n → ∃ cs, cs.length = sz ∧ P j cs) → ∃ xs : List Value, xs.length = n * sz ∧ (∀ u ∈ xs, ∃ j cs, j < n ∧ P j cs ∧ u ∈ cs) ∧ ∀ j, j < n → ∃ cs, P j cs ∧ cs.length = sz ∧ ∀ i, i < sz → xs[j * sz + i]? = cs[i]? := by
  intro n
  induction n with
  | zero => intro _; exact ⟨[], by simp, fun u hu => by simp at hu, fun j hj => absurd hj (by omega)⟩
  | succ n ih =>
    intro h
    obtain ⟨xs, hl, hm, hx⟩ := ih (fun j hj => h j (by omega))
    obtain ⟨cs, hcl, hp⟩ := h n (by omega)
    refine ⟨xs ++ cs, by rw [List.length_append, hl, hcl, Nat.add_mul]; omega, fun u hu => ?_, fun j hj => ?_⟩
    · rcases List.mem_append.1 hu with hu | hu
      · obtain ⟨j, c, hj, hp', hc⟩ := hm u hu
        exact ⟨j, c, by omega, hp', hc⟩
      · exact ⟨n, cs, by omega, hp, hu⟩
    · rcases Nat.lt_or_ge j n with hjn | hjn
      · obtain ⟨c, hp', hcl', hi⟩ := hx j hjn
        refine ⟨c, hp', hcl', fun i hi' => ?_⟩
        have : (j + 1) * sz ≤ n * sz := Nat.mul_le_mul_right _ hjn
        rw [Nat.add_mul] at this
        rw [List.getElem?_append_left (by omega)]
        exact hi i hi'
      · obtain rfl : j = n := by omega
        refine ⟨cs, hp, hcl, fun i hi' => ?_⟩
        rw [List.getElem?_append_right (by omega), hl, Nat.add_sub_cancel_left]

section
variable {α : Type} {ρ : Rep α} {w w' : World} {Z Zr : Nat → Prop}
theorem Slc.cells {A : Option Addr} {m : Nat} {l : List α} (h : Slc ρ w Zr A m l) (hlt : ∀ k, Zr k → k < w.heap.size) :
    ∃ xs, Reads w w.heap.size ρ.sz A m xs ∧ (∀ u ∈ xs, u.oneCell' = true) ∧ ∀ j x, l[j]? = some x → ∃ cs, ρ.R w Zr cs x ∧ ∀ i, i < ρ.sz → xs[j * ρ.sz + i]? = cs[i]? := by
  rcases Nat.eq_zero_or_pos m with h0 | h0
  · subst h0
    have hl : l = [] := List.eq_nil_of_length_eq_zero h.len
    subst hl
    exact ⟨[], ⟨by simp, fun h => absurd h (by omega)⟩, fun u hu => by simp at hu, fun j x hj => by simp at hj⟩
  · obtain ⟨b, off, rfl, hb, hc⟩ := h.at_ h0
    obtain ⟨xs, hl, hm, hx⟩ := exists_flat (P := fun j cs => ∃ x, l[j]? = some x ∧ ρ.R w Zr cs x ∧ ∀ i, i < ρ.sz → w.cell? ⟨b, off + j * ρ.sz + i, none⟩ = cs[i]?) (sz := ρ.sz) m (fun j hj => by
      obtain ⟨x, hx⟩ : ∃ x, l[j]? = some x := ⟨_, List.getElem?_eq_getElem (by rw [h.len]; exact hj)⟩
      obtain ⟨cs, hr, hi⟩ := hc j x hx
      exact ⟨cs, ρ.len hr, x, hx, hr, hi⟩)
    refine ⟨xs, ⟨hl, fun _ => ⟨_, rfl, hlt b hb, fun p u hp => ?_⟩⟩, fun u hu => ?_, fun j x hj => ?_⟩
    · have hlt' : p < m * ρ.sz := by
        rcases Nat.lt_or_ge p xs.length with h | h
        · omega
        · rw [List.getElem?_eq_none h] at hp; cases hp
      have hsz : 0 < ρ.sz := by
        rcases Nat.eq_zero_or_pos ρ.sz with h | h
        · rw [h] at hlt'; omega
        · exact h
      have hq : p / ρ.sz < m := Nat.div_lt_of_lt_mul (by rw [Nat.mul_comm]; exact hlt')
      obtain ⟨cs, ⟨x, hxl, hr, hi⟩, hcl, hxi⟩ := hx (p / ρ.sz) hq
      have hmod : p % ρ.sz < ρ.sz := Nat.mod_lt _ hsz
      have hp2 : p / ρ.sz * ρ.sz + p % ρ.sz = p := by rw [Nat.mul_comm]; exact Nat.div_add_mod p ρ.sz
      have h1 := hi (p % ρ.sz) hmod
      have h2 := hxi (p % ρ.sz) hmod
      rw [hp2] at h2
      rw [h2] at hp
      have ea : (⟨b, off, none⟩ : Addr).add p = ⟨b, off + p / ρ.sz * ρ.sz + p % ρ.sz, none⟩ := by
        rw [Nat.add_assoc, hp2]
        unfold Addr.add
        split
        · rename_i h; subst h; rfl
        · rfl
      rw [ea, h1, hp]
    · obtain ⟨j, cs, _, ⟨x, _, hr, _⟩, hc'⟩ := hm u hu
      exact ρ.one hr u hc'
    · have hj' : j < m := by
        rcases Nat.lt_or_ge j l.length with h' | h'
        · rw [h.len] at h'; exact h'
        · rw [List.getElem?_eq_none h'] at hj; cases hj
      obtain ⟨cs, ⟨x', hxl, hr, _⟩, _, hxi⟩ := hx j hj'
      rw [hj] at hxl
      cases hxl
      exact ⟨cs, hr, hxi⟩
/-- One thing in a block of its own. -/
theorem slc_temp {e : TypeId} {g : Nat} {cs : List Value} {x : α} (hg : w.heap[g]? = some (.cells cs.toArray e (0, 0))) (hr : ρ.R w Z cs x) (hZg : Z g) : Slc ρ w Z (some ⟨g, 0, none⟩) 1 [x] := by
  refine ⟨rfl, by unfold maxLen; omega, fun _ => ⟨g, 0, rfl, hZg, fun j y hj => ?_⟩⟩
  match j, hj with
  | 0, hj =>
    simp at hj
    subst hj
    refine ⟨cs, hr, fun i hi => ?_⟩
    rw [Nat.zero_mul, Nat.zero_add, cell_of_row w g i _ e (0, 0) hg]
    simp
  | j + 1, hj => simp at hj
/-- What the append leaves. -/
theorem ownL_of_rows {e : TypeId} {B : Nat} {Z' : Nat → Prop} {v v' : Value} {l l2 : List α} {xs news : List Value} (hx : w.ownsRow B e ρ.sz v l.length xs) (h1 : ∀ j x, l[j]? = some x → ∃ cs, ρ.R w Z cs x ∧ ∀ i, i < ρ.sz → xs[j * ρ.sz + i]? = cs[i]?)
    (h2 : ∀ j x, l2[j]? = some x → ∃ cs, ρ.R w Zr cs x ∧ ∀ i, i < ρ.sz → news[j * ρ.sz + i]? = cs[i]?) (ho : w'.ownsRow B e ρ.sz v' (l.length + l2.length) (xs ++ news)) (hg : w.grownBy w' v.ownBlock)
    (hZ : ∀ k, Z k → k < w.heap.size ∧ v.ownBlock ≠ some k) (hZr : ∀ k, Zr k → k < w.heap.size ∧ v.ownBlock ≠ some k) (hs : ∀ k, Z k → Z' k) (hs2 : ∀ k, Zr k → Z' k) (hsm : l.length + l2.length ≤ maxLen) (hn0 : l ++ l2 = [] → v' = .slice none 0 0) : OwnL ρ e w' B Z' v' (l ++ l2) := by
  have k1 : Keeps Z w w' := fun k hk => hg.block k (hZ k hk).1 (fun e => (hZ k hk).2 e.symm)
  have k2 : Keeps Zr w w' := fun k hk => hg.block k (hZr k hk).1 (fun e => (hZr k hk).2 e.symm)
  have hxl : xs.length = l.length * ρ.sz := hx.1
  refine ⟨⟨xs ++ news, by rw [List.length_append]; exact ho, fun j x hj => ?_⟩, by rw [List.length_append]; exact hsm, hn0⟩
  rcases Nat.lt_or_ge j l.length with hlt | hge
  · rw [List.getElem?_append_left hlt] at hj
    obtain ⟨cs, hr, hi⟩ := h1 j x hj
    refine ⟨cs, ρ.keep hr k1 hs, fun i hi' => ?_⟩
    have : (j + 1) * ρ.sz ≤ l.length * ρ.sz := Nat.mul_le_mul_right _ hlt
    rw [Nat.add_mul] at this
    rw [List.getElem?_append_left (by omega)]
    exact hi i hi'
  · rw [List.getElem?_append_right hge] at hj
    obtain ⟨cs, hr, hi⟩ := h2 _ x hj
    refine ⟨cs, ρ.keep hr k2 hs2, fun i hi' => ?_⟩
    have : l.length * ρ.sz ≤ j * ρ.sz := Nat.mul_le_mul_right _ hge
    have e : (j - l.length) * ρ.sz = j * ρ.sz - l.length * ρ.sz := Nat.sub_mul ..
    rw [List.getElem?_append_right (by omega), ← hi i hi', e]
    congr 1
    omega
end

/-- More things: the source is any slice that reads as such. -/
theorem wpList_append_l {P : Program} (w : World) {ops : Array Oper} {rest : List Oper} {o : Oper} {a : Act} {Q : Exit → Act → World → Prop} (hgd : o.guard = none) (s y : Operand) (t : TypeId)
    (ho : o.op = .call { callee := .builtin .append, args := #[s, y], argTypes := #[t, t] }) {α : Type} (ρ : Rep α) (e : TypeId)
    (i : TypeInfo) (z : Value) (bytes : Nat) (ht : P.underlying t = some (.slice e)) (hi : P.info? e = some i) (hz : i.zero = some z) (hsize : i.size = ρ.sz) (hby : i.bytes = bytes) (hzc : z.cells.size = ρ.sz) (hsz : 0 < ρ.sz)
    (B : Nat) (Z : Nat → Prop) (v : Value) (l : List α) (hs : a.eval s = v) (hown : OwnL ρ e w B Z v l) (Zr : Nat → Prop) (A : Option Addr) (m c : Nat) (l2 : List α) (hx : a.eval y = .slice A m c) (hr : Slc ρ w Zr A m l2)
    (hZ : ∀ k, Z k → k < w.heap.size ∧ v.ownBlock ≠ some k) (hZr : ∀ k, Zr k → k < w.heap.size ∧ v.ownBlock ≠ some k) (hlen : (l.length + l2.length) * bytes ≤ 140737488355328) (hsm : l.length + l2.length ≤ maxLen) (hbase : B ≤ w.heap.size)
    (h : ∀ v' w', (∀ Z', (∀ k, Z k → Z' k) → (∀ k, Zr k → Z' k) → OwnL ρ e w' B Z' v' (l ++ l2)) → w.grownBy w' v.ownBlock → (v'.ownBlock = v.ownBlock ∨ v'.ownBlock = some w.heap.size) → wpList P ops Q rest (a.put o.dst v') w') : wpList P ops Q (o :: rest) a w := by
  obtain ⟨xs, hxo, hxr⟩ := hown.own
  obtain ⟨news, hrd, hone, hnr⟩ := hr.cells (fun k hk => (hZr k hk).1)
  have hm := hr.len
  refine wpList_append_any w hgd s y t ho B e i z ρ.sz bytes ht hi hz hsize hby hzc hsz v l.length xs hs hxo w.heap.size A m c news hx hrd hone (by omega) (by rw [← hm]; exact hlen) hbase ?_
  intro v' w' h1 h2 h3 h6
  exact h v' w' (fun Z' q1 q2 => ownL_of_rows hxo hxr hnr (by rw [hm]; exact h1) h2 hZ hZr q1 q2 hsm (fun e0 => h6 (by rw [← hm, (List.append_eq_nil_iff.1 e0).2]; rfl) (hown.nil (List.append_eq_nil_iff.1 e0).1))) h2 h3
/-- The same at a step of a region that draws. -/
theorem step_append_l {P : Program} (w : World) {ops : Array Oper} {o : Oper} {a : Act} {K : Act → World → Prop} {Q : Exit → Act → World → Prop} {E : Prop} (hgd : o.guard = none) (s y : Operand) (t : TypeId)
    (ho : o.op = .call { callee := .builtin .append, args := #[s, y], argTypes := #[t, t] }) {α : Type} (ρ : Rep α) (e : TypeId)
    (i : TypeInfo) (z : Value) (bytes : Nat) (ht : P.underlying t = some (.slice e)) (hi : P.info? e = some i) (hz : i.zero = some z) (hsize : i.size = ρ.sz) (hby : i.bytes = bytes) (hzc : z.cells.size = ρ.sz) (hsz : 0 < ρ.sz)
    (B : Nat) (Z : Nat → Prop) (v : Value) (l : List α) (hs : a.eval s = v) (hown : OwnL ρ e w B Z v l) (Zr : Nat → Prop) (A : Option Addr) (m c : Nat) (l2 : List α) (hx : a.eval y = .slice A m c) (hr : Slc ρ w Zr A m l2)
    (hZ : ∀ k, Z k → k < w.heap.size ∧ v.ownBlock ≠ some k) (hZr : ∀ k, Zr k → k < w.heap.size ∧ v.ownBlock ≠ some k) (hlen : (l.length + l2.length) * bytes ≤ 140737488355328) (hsm : l.length + l2.length ≤ maxLen) (hbase : B ≤ w.heap.size)
    (h : ∀ v' w', (∀ Z', (∀ k, Z k → Z' k) → (∀ k, Zr k → Z' k) → OwnL ρ e w' B Z' v' (l ++ l2)) → w.grownBy w' v.ownBlock → (v'.ownBlock = v.ownBlock ∨ v'.ownBlock = some w.heap.size) → K (a.put o.dst v') w') :
    if Region.wanted o (yielded ops a.tmps) = true then Oper.wp P o a w K Q else E := by
  obtain ⟨xs, hxo, hxr⟩ := hown.own
  obtain ⟨news, hrd, hone, hnr⟩ := hr.cells (fun k hk => (hZr k hk).1)
  have hm := hr.len
  refine step_append_any w hgd s y t ho B e i z ρ.sz bytes ht hi hz hsize hby hzc hsz v l.length xs hs hxo w.heap.size A m c news hx hrd hone (by omega) (by rw [← hm]; exact hlen) hbase ?_
  intro v' w' h1 h2 h3 h6
  exact h v' w' (fun Z' q1 q2 => ownL_of_rows hxo hxr hnr (by rw [hm]; exact h1) h2 hZ hZr q1 q2 hsm (fun e0 => h6 (by rw [← hm, (List.append_eq_nil_iff.1 e0).2]; rfl) (hown.nil (List.append_eq_nil_iff.1 e0).1))) h2 h3
end Go.Proofs.YtbilddeepnnogaaGreatDoor

/- How tensors, attributes, nodes, values and graphs lie in cells. -/
namespace Go.Proofs.YtbilddeepnnogaaGreatDoor
open Go.RowKit

def repInt : Rep Int where
  sz := 1
  R := fun _ _ cs x => cs = [.int .i64 x]
  len := by intro _ _ cs x h; rw [h]; rfl
  one := by intro _ _ cs x h u hu; rw [h] at hu; simp at hu; subst hu; rfl
  keep := by intro _ _ _ _ _ _ h _ _; exact h
def repStr : Rep ByteArray where
  sz := 1
  R := fun _ _ cs x => cs = [.string x]
  len := by intro _ _ cs x h; rw [h]; rfl
  one := by intro _ _ cs x h u hu; rw [h] at hu; simp at hu; subst hu; rfl
  keep := by intro _ _ _ _ _ _ h _ _; exact h

/-- A value that is a slice. -/
def IsSlc {α : Type} (ρ : Rep α) (w : World) (Z : Nat → Prop) (v : Value) (l : List α) : Prop := ∃ A n c, v = .slice A n c ∧ Slc ρ w Z A n l ∧ (l = [] → v = .slice none 0 0)
theorem IsSlc.keep {α : Type} {ρ : Rep α} {w w' : World} {Z Z' : Nat → Prop} {v : Value} {l : List α} (h : IsSlc ρ w Z v l) (hk : Keeps Z w w') (hZ : ∀ k, Z k → Z' k) : IsSlc ρ w' Z' v l := by
  obtain ⟨A, n, c, e, hs, h0⟩ := h
  exact ⟨A, n, c, e, hs.keep hk hZ, h0⟩
theorem IsSlc.one {α : Type} {ρ : Rep α} {w : World} {Z : Nat → Prop} {v : Value} {l : List α} (h : IsSlc ρ w Z v l) : v.oneCell' = true := by
  obtain ⟨A, n, c, rfl, _⟩ := h; rfl

/-- A tensor. -/
structure Tn where
  typ : Int
  dims : List Int
  data : List Int
def repTn : Rep Tn where
  sz := 3
  R := fun w Z cs t => ∃ d e, cs = [.int .i64 t.typ, d, e] ∧ IsSlc repInt w Z d t.dims ∧ IsSlc repInt w Z e t.data
  len := by rintro _ _ _ _ ⟨d, e, rfl, _⟩; rfl
  one := by
    rintro _ _ _ _ ⟨d, e, rfl, h1, h2⟩ u hu
    simp at hu
    rcases hu with rfl | rfl | rfl
    · rfl
    · exact h1.one
    · exact h2.one
  keep := by
    rintro _ _ _ _ _ _ ⟨d, e, rfl, h1, h2⟩ hk hZ
    exact ⟨d, e, rfl, h1.keep hk hZ, h2.keep hk hZ⟩
/-- A tensor with a name. -/
structure Nm where
  name : ByteArray
  t : Tn
def repNm : Rep Nm where
  sz := 4
  R := fun w Z cs t => ∃ d e, cs = [.string t.name, .int .i64 t.t.typ, d, e] ∧ IsSlc repInt w Z d t.t.dims ∧ IsSlc repInt w Z e t.t.data
  len := by rintro _ _ _ _ ⟨d, e, rfl, _⟩; rfl
  one := by
    rintro _ _ _ _ ⟨d, e, rfl, h1, h2⟩ u hu
    simp at hu
    rcases hu with rfl | rfl | rfl | rfl
    · rfl
    · rfl
    · exact h1.one
    · exact h2.one
  keep := by
    rintro _ _ _ _ _ _ ⟨d, e, rfl, h1, h2⟩ hk hZ
    exact ⟨d, e, rfl, h1.keep hk hZ, h2.keep hk hZ⟩
/-- A value: name, type, dimensions. -/
structure Vl where
  name : ByteArray
  typ : Int
  dims : List Int
def repVl : Rep Vl where
  sz := 3
  R := fun w Z cs t => ∃ d, cs = [.string t.name, .int .i64 t.typ, d] ∧ IsSlc repInt w Z d t.dims
  len := by rintro _ _ _ _ ⟨d, rfl, _⟩; rfl
  one := by
    rintro _ _ _ _ ⟨d, rfl, h1⟩ u hu
    simp at hu
    rcases hu with rfl | rfl | rfl
    · rfl
    · rfl
    · exact h1.one
  keep := by
    rintro _ _ _ _ _ _ ⟨d, rfl, h1⟩ hk hZ
    exact ⟨d, rfl, h1.keep hk hZ⟩
/-- An attribute. -/
structure At where
  name : ByteArray
  kind : Int
  f : Int
  i : Int
  s : ByteArray
  t : Tn
  ints : List Int
def repAt : Rep At where
  sz := 9
  R := fun w Z cs a => ∃ d e g, cs = [.string a.name, .int .i64 a.kind, .int .i64 a.f, .int .i64 a.i, .string a.s, .int .i64 a.t.typ, d, e, g] ∧ IsSlc repInt w Z d a.t.dims ∧ IsSlc repInt w Z e a.t.data ∧ IsSlc repInt w Z g a.ints
  len := by rintro _ _ _ _ ⟨d, e, g, rfl, _⟩; rfl
  one := by
    rintro _ _ _ _ ⟨d, e, g, rfl, h1, h2, h3⟩ u hu
    simp at hu
    rcases hu with rfl | rfl | rfl | rfl | rfl | rfl | rfl | rfl | rfl
    · rfl
    · rfl
    · rfl
    · rfl
    · rfl
    · rfl
    · exact h1.one
    · exact h2.one
    · exact h3.one
  keep := by
    rintro _ _ _ _ _ _ ⟨d, e, g, rfl, h1, h2, h3⟩ hk hZ
    exact ⟨d, e, g, rfl, h1.keep hk hZ, h2.keep hk hZ, h3.keep hk hZ⟩
/-- A node. -/
structure Nd where
  op : ByteArray
  name : ByteArray
  ins : List ByteArray
  out : ByteArray
  attrs : List At
def repNd : Rep Nd where
  sz := 5
  R := fun w Z cs a => ∃ d e, cs = [.string a.op, .string a.name, d, .string a.out, e] ∧ IsSlc repStr w Z d a.ins ∧ IsSlc repAt w Z e a.attrs
  len := by rintro _ _ _ _ ⟨d, e, rfl, _⟩; rfl
  one := by
    rintro _ _ _ _ ⟨d, e, rfl, h1, h2⟩ u hu
    simp at hu
    rcases hu with rfl | rfl | rfl | rfl | rfl
    · rfl
    · rfl
    · exact h1.one
    · rfl
    · exact h2.one
  keep := by
    rintro _ _ _ _ _ _ ⟨d, e, rfl, h1, h2⟩ hk hZ
    exact ⟨d, e, rfl, h1.keep hk hZ, h2.keep hk hZ⟩
/-- A graph. -/
structure Gr where
  name : ByteArray
  nodes : List Nd
  ins : List Vl
  outs : List Vl
  inits : List Nm
def repGr : Rep Gr where
  sz := 5
  R := fun w Z cs a => ∃ d e g h, cs = [.string a.name, d, e, g, h] ∧ IsSlc repNd w Z d a.nodes ∧ IsSlc repVl w Z e a.ins ∧ IsSlc repVl w Z g a.outs ∧ IsSlc repNm w Z h a.inits
  len := by rintro _ _ _ _ ⟨d, e, g, h, rfl, _⟩; rfl
  one := by
    rintro _ _ _ _ ⟨d, e, g, h, rfl, h1, h2, h3, h4⟩ u hu
    simp at hu
    rcases hu with rfl | rfl | rfl | rfl | rfl
    · rfl
    · exact h1.one
    · exact h2.one
    · exact h3.one
    · exact h4.one
  keep := by
    rintro _ _ _ _ _ _ ⟨d, e, g, h, rfl, h1, h2, h3, h4⟩ hk hZ
    exact ⟨d, e, g, h, rfl, h1.keep hk hZ, h2.keep hk hZ, h3.keep hk hZ, h4.keep hk hZ⟩
end Go.Proofs.YtbilddeepnnogaaGreatDoor
end
/- Lists of the call's own with marks. -/
section
set_option linter.unusedVariables false
namespace Go.Proofs.YtbilddeepnnogaaGreatDoor
open Go.RowKit

/-- Of what was there block b alone may have turned. -/
structure Only (b : Nat) (w w' : World) : Prop where
  os : w'.os = w.os
  tape : w'.tape = w.tape
  output : w'.output = w.output
  size : w.heap.size ≤ w'.heap.size
  block : ∀ k, k < w.heap.size → k ≠ b → w'.heap[k]? = w.heap[k]?
theorem Only.refl (b : Nat) (w : World) : Only b w w := ⟨rfl, rfl, rfl, Nat.le_refl _, fun _ _ _ => rfl⟩
theorem Only.trans {b : Nat} {x y z : World} (h : Only b x y) (g : Only b y z) : Only b x z :=
  ⟨g.os.trans h.os, g.tape.trans h.tape, g.output.trans h.output, Nat.le_trans h.size g.size, fun k hk hb => (g.block k (by have := h.size; omega) hb).trans (h.block k hk hb)⟩
theorem Only.drewN {b : Nat} {x y : World} (h : Only b x y) (q : Nat) : Only b x (y.drewN q) := ⟨h.os, h.tape, h.output, h.size, h.block⟩
theorem Only.drew {b : Nat} {x y : World} (h : Only b x y) : Only b x y.drew := ⟨h.os, h.tape, h.output, h.size, h.block⟩
theorem Only.set_ {b : Nat} {x y : World} (h : Only b x y) (i : Nat) (u : Value) : Only b x (y.setCell ⟨b, i, none⟩ u) :=
  h.trans ⟨rfl, rfl, rfl, by simp [World.setCell], fun k _ hb => Below.heap_setCell _ _ _ _ hb⟩
theorem Only.alloc {b : Nat} {x y : World} (h : Only b x y) (o : Obj) : Only b x (y.alloc o) :=
  h.trans ⟨rfl, rfl, rfl, by simp, fun k hk _ => Below.heap_alloc _ _ _ hk⟩
theorem Only.new_ {b : Nat} {x y : World} (h : Only b x y) {a : Addr} (ha : x.heap.size ≤ a.block) (u : Value) : Only b x (y.setCell a u) :=
  ⟨h.os, h.tape, h.output, by have := h.size; simp [World.setCell]; omega, fun k hk hb => (Below.heap_setCell _ _ _ _ (by omega)).trans (h.block k hk hb)⟩
theorem Only.below {b : Nat} {x y : World} (h : Only b x y) {B : Nat} (hb : B ≤ b) (hB : B ≤ x.heap.size) : Below B x y :=
  ⟨h.os, h.tape, h.output, h.size, fun k hk => h.block k (by omega) (by omega)⟩

/-- Cells put into a block one by one. -/
def setFrom (w : World) (g : Nat) : Nat → List Value → World
  | _, [] => w
  | k, c :: cs => setFrom (w.setCell ⟨g, k, none⟩ c) g (k + 1) cs
def putAll (old : Array Value) : Nat → List Value → Array Value
  | _, [] => old
  | k, c :: cs => putAll (old.setIfInBounds k c) (k + 1) cs
theorem setFrom_heap (t : TypeId) (g : Nat) : ∀ (cs : List Value) (k : Nat) (w : World) (old : Array Value), w.heap[g]? = some (.cells old t (0, 0)) → (setFrom w g k cs).heap[g]? = some (.cells (putAll old k cs) t (0, 0)) := by
  intro cs
  induction cs with
  | nil => intro k w old h; exact h
  | cons c cs ih => intro k w old h; exact ih (k + 1) _ _ (heap_setCell_same w g k old t c h)
theorem setFrom_keep (g : Nat) : ∀ (cs : List Value) (k : Nat) (w : World), (∀ j, j ≠ g → (setFrom w g k cs).heap[j]? = w.heap[j]?) ∧ (setFrom w g k cs).heap.size = w.heap.size ∧ (setFrom w g k cs).os = w.os ∧ (setFrom w g k cs).tape = w.tape ∧ (setFrom w g k cs).output = w.output := by
  intro cs
  induction cs with
  | nil => intro k w; exact ⟨fun _ _ => rfl, rfl, rfl, rfl, rfl⟩
  | cons c cs ih =>
    intro k w
    obtain ⟨h1, h2, h3, h4, h5⟩ := ih (k + 1) (w.setCell ⟨g, k, none⟩ c)
    exact ⟨fun j hj => (h1 j hj).trans (Below.heap_setCell _ _ _ _ hj), h2.trans (by simp [World.setCell]), h3, h4, h5⟩
theorem setFrom_below {B g : Nat} (h : B ≤ g) (cs : List Value) (k : Nat) (w : World) : Below B w (setFrom w g k cs) := by
  obtain ⟨h1, h2, h3, h4, h5⟩ := setFrom_keep g cs k w
  exact ⟨h3, h4, h5, Nat.le_of_eq h2.symm, fun j hj => h1 j (by omega)⟩
theorem fin_row {α : Type} (ρ : Rep α) {w W : World} {B g : Nat} {cs : List Value} {old : Array Value} {t : TypeId} {x : α} {Z : Nat → Prop} (G : W.heap[g]? = some (.cells old t (0, 0))) (hl : putAll old 0 cs = cs.toArray) (hB : Below B w W) (hg : B ≤ g) (hR : ρ.R W Z cs x)
    (hZ : ∀ k, Z k → k ≠ g ∧ B ≤ k ∧ k < W.heap.size) :
    (setFrom W g 0 cs).heap[g]? = some (.cells cs.toArray t (0, 0)) ∧ Below B w (setFrom W g 0 cs) ∧ ρ.R (setFrom W g 0 cs) (fun k => B ≤ k ∧ k < (setFrom W g 0 cs).heap.size) cs x := by
  obtain ⟨h1, h2, _⟩ := setFrom_keep g cs 0 W
  refine ⟨?_, hB.trans (setFrom_below hg cs 0 W), ρ.keep hR (fun k hk => h1 k (hZ k hk).1) (fun k hk => ⟨(hZ k hk).2.1, by rw [h2]; exact (hZ k hk).2.2⟩)⟩
  have := setFrom_heap t g cs 0 W old G
  rwa [hl] at this
theorem isSlc_nil {α : Type} (ρ : Rep α) (w : World) (Z : Nat → Prop) : IsSlc ρ w Z (.slice none 0 0) [] := ⟨none, 0, 0, rfl, Slc.nil_, fun _ => rfl⟩
/-- The cells of a block that is known whole, and new ones laid over them. -/
theorem frozen_row {w : World} {g : Nat} {cs : Array Value} {t : TypeId} (h : w.heap[g]? = some (.cells cs t (0, 0))) (i : Nat) : w.frozen? ⟨g, i, none⟩ = false := by simp [World.frozen?, h]
theorem cells2 {w : World} {g : Nat} {t : TypeId} {c0 c1 : Value} (h : w.heap[g]? = some (.cells #[c0, c1] t (0, 0))) : w.cell? ⟨g, 0, none⟩ = some c0 ∧ w.cell? ⟨g, 1, none⟩ = some c1 ∧ w.frozen? ⟨g, 0, none⟩ = false ∧ w.frozen? ⟨g, 1, none⟩ = false :=
  ⟨cell_of_row _ _ 0 _ t (0, 0) h, cell_of_row _ _ 1 _ t (0, 0) h, frozen_row h 0, frozen_row h 1⟩
theorem put2 {F : World → Prop} {w : World} {g : Nat} {t : TypeId} {c0 c1 d0 d1 : Value} (h : w.heap[g]? = some (.cells #[c0, c1] t (0, 0))) (hk : ∀ w', w'.heap[g]? = some (.cells #[d0, d1] t (0, 0)) → (∀ j, j ≠ g → w'.heap[j]? = w.heap[j]?) → Below g w w' → w'.heap.size = w.heap.size → F w') : F ((w.setCell ⟨g, 0, none⟩ d0).setCell ⟨g, 1, none⟩ d1) := by
  obtain ⟨h1, h2, _⟩ := setFrom_keep g [d0, d1] 0 w
  have h3 := setFrom_heap t g [d0, d1] 0 w _ h
  rw [show putAll #[c0, c1] 0 [d0, d1] = #[d0, d1] from by simp [putAll]] at h3
  have h4 := setFrom_below (Nat.le_refl g) [d0, d1] 0 w
  have h5 := hk _ h3 h1 h4 h2
  simp only [setFrom] at h5
  exact h5
theorem cells3 {w : World} {g : Nat} {t : TypeId} {c0 c1 c2 : Value} (h : w.heap[g]? = some (.cells #[c0, c1, c2] t (0, 0))) : w.cell? ⟨g, 0, none⟩ = some c0 ∧ w.cell? ⟨g, 1, none⟩ = some c1 ∧ w.cell? ⟨g, 2, none⟩ = some c2 ∧ w.frozen? ⟨g, 0, none⟩ = false ∧ w.frozen? ⟨g, 1, none⟩ = false ∧ w.frozen? ⟨g, 2, none⟩ = false :=
  ⟨cell_of_row _ _ 0 _ t (0, 0) h, cell_of_row _ _ 1 _ t (0, 0) h, cell_of_row _ _ 2 _ t (0, 0) h, frozen_row h 0, frozen_row h 1, frozen_row h 2⟩
theorem put3 {F : World → Prop} {w : World} {g : Nat} {t : TypeId} {c0 c1 c2 d0 d1 d2 : Value} (h : w.heap[g]? = some (.cells #[c0, c1, c2] t (0, 0))) (hk : ∀ w', w'.heap[g]? = some (.cells #[d0, d1, d2] t (0, 0)) → (∀ j, j ≠ g → w'.heap[j]? = w.heap[j]?) → Below g w w' → w'.heap.size = w.heap.size → F w') : F (((w.setCell ⟨g, 0, none⟩ d0).setCell ⟨g, 1, none⟩ d1).setCell ⟨g, 2, none⟩ d2) := by
  obtain ⟨h1, h2, _⟩ := setFrom_keep g [d0, d1, d2] 0 w
  have h3 := setFrom_heap t g [d0, d1, d2] 0 w _ h
  rw [show putAll #[c0, c1, c2] 0 [d0, d1, d2] = #[d0, d1, d2] from by simp [putAll]] at h3
  have h4 := setFrom_below (Nat.le_refl g) [d0, d1, d2] 0 w
  have h5 := hk _ h3 h1 h4 h2
  simp only [setFrom] at h5
  exact h5
theorem cells4 {w : World} {g : Nat} {t : TypeId} {c0 c1 c2 c3 : Value} (h : w.heap[g]? = some (.cells #[c0, c1, c2, c3] t (0, 0))) : w.cell? ⟨g, 0, none⟩ = some c0 ∧ w.cell? ⟨g, 1, none⟩ = some c1 ∧ w.cell? ⟨g, 2, none⟩ = some c2 ∧ w.cell? ⟨g, 3, none⟩ = some c3 ∧ w.frozen? ⟨g, 0, none⟩ = false ∧ w.frozen? ⟨g, 1, none⟩ = false ∧ w.frozen? ⟨g, 2, none⟩ = false ∧ w.frozen? ⟨g, 3, none⟩ = false :=
  ⟨cell_of_row _ _ 0 _ t (0, 0) h, cell_of_row _ _ 1 _ t (0, 0) h, cell_of_row _ _ 2 _ t (0, 0) h, cell_of_row _ _ 3 _ t (0, 0) h, frozen_row h 0, frozen_row h 1, frozen_row h 2, frozen_row h 3⟩
theorem put4 {F : World → Prop} {w : World} {g : Nat} {t : TypeId} {c0 c1 c2 c3 d0 d1 d2 d3 : Value} (h : w.heap[g]? = some (.cells #[c0, c1, c2, c3] t (0, 0))) (hk : ∀ w', w'.heap[g]? = some (.cells #[d0, d1, d2, d3] t (0, 0)) → (∀ j, j ≠ g → w'.heap[j]? = w.heap[j]?) → Below g w w' → w'.heap.size = w.heap.size → F w') : F ((((w.setCell ⟨g, 0, none⟩ d0).setCell ⟨g, 1, none⟩ d1).setCell ⟨g, 2, none⟩ d2).setCell ⟨g, 3, none⟩ d3) := by
  obtain ⟨h1, h2, _⟩ := setFrom_keep g [d0, d1, d2, d3] 0 w
  have h3 := setFrom_heap t g [d0, d1, d2, d3] 0 w _ h
  rw [show putAll #[c0, c1, c2, c3] 0 [d0, d1, d2, d3] = #[d0, d1, d2, d3] from by simp [putAll]] at h3
  have h4 := setFrom_below (Nat.le_refl g) [d0, d1, d2, d3] 0 w
  have h5 := hk _ h3 h1 h4 h2
  simp only [setFrom] at h5
  exact h5
theorem cells5 {w : World} {g : Nat} {t : TypeId} {c0 c1 c2 c3 c4 : Value} (h : w.heap[g]? = some (.cells #[c0, c1, c2, c3, c4] t (0, 0))) : w.cell? ⟨g, 0, none⟩ = some c0 ∧ w.cell? ⟨g, 1, none⟩ = some c1 ∧ w.cell? ⟨g, 2, none⟩ = some c2 ∧ w.cell? ⟨g, 3, none⟩ = some c3 ∧ w.cell? ⟨g, 4, none⟩ = some c4 ∧ w.frozen? ⟨g, 0, none⟩ = false ∧ w.frozen? ⟨g, 1, none⟩ = false ∧ w.frozen? ⟨g, 2, none⟩ = false ∧ w.frozen? ⟨g, 3, none⟩ = false ∧ w.frozen? ⟨g, 4, none⟩ = false :=
  ⟨cell_of_row _ _ 0 _ t (0, 0) h, cell_of_row _ _ 1 _ t (0, 0) h, cell_of_row _ _ 2 _ t (0, 0) h, cell_of_row _ _ 3 _ t (0, 0) h, cell_of_row _ _ 4 _ t (0, 0) h, frozen_row h 0, frozen_row h 1, frozen_row h 2, frozen_row h 3, frozen_row h 4⟩
theorem put5 {F : World → Prop} {w : World} {g : Nat} {t : TypeId} {c0 c1 c2 c3 c4 d0 d1 d2 d3 d4 : Value} (h : w.heap[g]? = some (.cells #[c0, c1, c2, c3, c4] t (0, 0))) (hk : ∀ w', w'.heap[g]? = some (.cells #[d0, d1, d2, d3, d4] t (0, 0)) → (∀ j, j ≠ g → w'.heap[j]? = w.heap[j]?) → Below g w w' → w'.heap.size = w.heap.size → F w') : F (((((w.setCell ⟨g, 0, none⟩ d0).setCell ⟨g, 1, none⟩ d1).setCell ⟨g, 2, none⟩ d2).setCell ⟨g, 3, none⟩ d3).setCell ⟨g, 4, none⟩ d4) := by
  obtain ⟨h1, h2, _⟩ := setFrom_keep g [d0, d1, d2, d3, d4] 0 w
  have h3 := setFrom_heap t g [d0, d1, d2, d3, d4] 0 w _ h
  rw [show putAll #[c0, c1, c2, c3, c4] 0 [d0, d1, d2, d3, d4] = #[d0, d1, d2, d3, d4] from by simp [putAll]] at h3
  have h4 := setFrom_below (Nat.le_refl g) [d0, d1, d2, d3, d4] 0 w
  have h5 := hk _ h3 h1 h4 h2
  simp only [setFrom] at h5
  exact h5
theorem cells9 {w : World} {g : Nat} {t : TypeId} {c0 c1 c2 c3 c4 c5 c6 c7 c8 : Value} (h : w.heap[g]? = some (.cells #[c0, c1, c2, c3, c4, c5, c6, c7, c8] t (0, 0))) : w.cell? ⟨g, 0, none⟩ = some c0 ∧ w.cell? ⟨g, 1, none⟩ = some c1 ∧ w.cell? ⟨g, 2, none⟩ = some c2 ∧ w.cell? ⟨g, 3, none⟩ = some c3 ∧ w.cell? ⟨g, 4, none⟩ = some c4 ∧ w.cell? ⟨g, 5, none⟩ = some c5 ∧ w.cell? ⟨g, 6, none⟩ = some c6 ∧ w.cell? ⟨g, 7, none⟩ = some c7 ∧ w.cell? ⟨g, 8, none⟩ = some c8 ∧ w.frozen? ⟨g, 0, none⟩ = false ∧ w.frozen? ⟨g, 1, none⟩ = false ∧ w.frozen? ⟨g, 2, none⟩ = false ∧ w.frozen? ⟨g, 3, none⟩ = false ∧ w.frozen? ⟨g, 4, none⟩ = false ∧ w.frozen? ⟨g, 5, none⟩ = false ∧ w.frozen? ⟨g, 6, none⟩ = false ∧ w.frozen? ⟨g, 7, none⟩ = false ∧ w.frozen? ⟨g, 8, none⟩ = false :=
  ⟨cell_of_row _ _ 0 _ t (0, 0) h, cell_of_row _ _ 1 _ t (0, 0) h, cell_of_row _ _ 2 _ t (0, 0) h, cell_of_row _ _ 3 _ t (0, 0) h, cell_of_row _ _ 4 _ t (0, 0) h, cell_of_row _ _ 5 _ t (0, 0) h, cell_of_row _ _ 6 _ t (0, 0) h, cell_of_row _ _ 7 _ t (0, 0) h, cell_of_row _ _ 8 _ t (0, 0) h, frozen_row h 0, frozen_row h 1, frozen_row h 2, frozen_row h 3, frozen_row h 4, frozen_row h 5, frozen_row h 6, frozen_row h 7, frozen_row h 8⟩
theorem put9 {F : World → Prop} {w : World} {g : Nat} {t : TypeId} {c0 c1 c2 c3 c4 c5 c6 c7 c8 d0 d1 d2 d3 d4 d5 d6 d7 d8 : Value} (h : w.heap[g]? = some (.cells #[c0, c1, c2, c3, c4, c5, c6, c7, c8] t (0, 0))) (hk : ∀ w', w'.heap[g]? = some (.cells #[d0, d1, d2, d3, d4, d5, d6, d7, d8] t (0, 0)) → (∀ j, j ≠ g → w'.heap[j]? = w.heap[j]?) → Below g w w' → w'.heap.size = w.heap.size → F w') : F (((((((((w.setCell ⟨g, 0, none⟩ d0).setCell ⟨g, 1, none⟩ d1).setCell ⟨g, 2, none⟩ d2).setCell ⟨g, 3, none⟩ d3).setCell ⟨g, 4, none⟩ d4).setCell ⟨g, 5, none⟩ d5).setCell ⟨g, 6, none⟩ d6).setCell ⟨g, 7, none⟩ d7).setCell ⟨g, 8, none⟩ d8) := by
  obtain ⟨h1, h2, _⟩ := setFrom_keep g [d0, d1, d2, d3, d4, d5, d6, d7, d8] 0 w
  have h3 := setFrom_heap t g [d0, d1, d2, d3, d4, d5, d6, d7, d8] 0 w _ h
  rw [show putAll #[c0, c1, c2, c3, c4, c5, c6, c7, c8] 0 [d0, d1, d2, d3, d4, d5, d6, d7, d8] = #[d0, d1, d2, d3, d4, d5, d6, d7, d8] from by simp [putAll]] at h3
  have h4 := setFrom_below (Nat.le_refl g) [d0, d1, d2, d3, d4, d5, d6, d7, d8] 0 w
  have h5 := hk _ h3 h1 h4 h2
  simp only [setFrom] at h5
  exact h5

theorem far2 {w : World} {g : Nat} {d0 d1 : Value} {a : Addr} (h : a.block ≠ g) : ((w.setCell ⟨g, 0, none⟩ d0).setCell ⟨g, 1, none⟩ d1).cell? a = w.cell? a := World.cell?_of_block ((setFrom_keep g [d0, d1] 0 w).1 a.block h)
theorem far3 {w : World} {g : Nat} {d0 d1 d2 : Value} {a : Addr} (h : a.block ≠ g) : (((w.setCell ⟨g, 0, none⟩ d0).setCell ⟨g, 1, none⟩ d1).setCell ⟨g, 2, none⟩ d2).cell? a = w.cell? a := World.cell?_of_block ((setFrom_keep g [d0, d1, d2] 0 w).1 a.block h)
theorem far4 {w : World} {g : Nat} {d0 d1 d2 d3 : Value} {a : Addr} (h : a.block ≠ g) : ((((w.setCell ⟨g, 0, none⟩ d0).setCell ⟨g, 1, none⟩ d1).setCell ⟨g, 2, none⟩ d2).setCell ⟨g, 3, none⟩ d3).cell? a = w.cell? a := World.cell?_of_block ((setFrom_keep g [d0, d1, d2, d3] 0 w).1 a.block h)
theorem far5 {w : World} {g : Nat} {d0 d1 d2 d3 d4 : Value} {a : Addr} (h : a.block ≠ g) : (((((w.setCell ⟨g, 0, none⟩ d0).setCell ⟨g, 1, none⟩ d1).setCell ⟨g, 2, none⟩ d2).setCell ⟨g, 3, none⟩ d3).setCell ⟨g, 4, none⟩ d4).cell? a = w.cell? a := World.cell?_of_block ((setFrom_keep g [d0, d1, d2, d3, d4] 0 w).1 a.block h)
theorem far9 {w : World} {g : Nat} {d0 d1 d2 d3 d4 d5 d6 d7 d8 : Value} {a : Addr} (h : a.block ≠ g) : (((((((((w.setCell ⟨g, 0, none⟩ d0).setCell ⟨g, 1, none⟩ d1).setCell ⟨g, 2, none⟩ d2).setCell ⟨g, 3, none⟩ d3).setCell ⟨g, 4, none⟩ d4).setCell ⟨g, 5, none⟩ d5).setCell ⟨g, 6, none⟩ d6).setCell ⟨g, 7, none⟩ d7).setCell ⟨g, 8, none⟩ d8).cell? a = w.cell? a := World.cell?_of_block ((setFrom_keep g [d0, d1, d2, d3, d4, d5, d6, d7, d8] 0 w).1 a.block h)
theorem new_F {F : World → Prop} {w : World} {o : Obj} (h : ∀ w', Below w.heap.size w w' → w'.heap[w.heap.size]? = some o → w.heap.size + 1 = w'.heap.size → F w') : F (w.alloc o) :=
  h _ ((Below.refl _ _).alloc (Nat.le_refl _) _) (heap_alloc_new w o) (by simp)
theorem below_more {B : Nat} {a w : World} (h : Below B a w) (hB : B ≤ w.heap.size) (o : Obj) : Below B a (w.alloc o) ∧ B ≤ (w.alloc o).heap.size := ⟨h.alloc hB o, by simp; omega⟩
theorem below_n1 (w : World) (a : Obj) : Below w.heap.size w (w.alloc a) ∧ w.heap.size ≤ (w.alloc a).heap.size := below_more (Below.refl _ _) (Nat.le_refl _) a
theorem below_n2 (w : World) (a b : Obj) : Below w.heap.size w ((w.alloc a).alloc b) ∧ w.heap.size ≤ ((w.alloc a).alloc b).heap.size := below_more (below_n1 w a).1 (below_n1 w a).2 b
theorem below_n3 (w : World) (a b c : Obj) : Below w.heap.size w (((w.alloc a).alloc b).alloc c) ∧ w.heap.size ≤ (((w.alloc a).alloc b).alloc c).heap.size := below_more (below_n2 w a b).1 (below_n2 w a b).2 c
theorem below_n4 (w : World) (a b c d : Obj) : Below w.heap.size w ((((w.alloc a).alloc b).alloc c).alloc d) ∧ w.heap.size ≤ ((((w.alloc a).alloc b).alloc c).alloc d).heap.size := below_more (below_n3 w a b c).1 (below_n3 w a b c).2 d
/-- Of what was there nothing has turned; the first new block holds o. -/
structure Bx (w wr : World) (o : Obj) : Prop where
  below : Below w.heap.size w wr
  g0 : wr.heap[w.heap.size]? = some o
theorem Bx.size {w wr : World} {o : Obj} (h : Bx w wr o) : w.heap.size + 1 ≤ wr.heap.size := (Array.getElem?_eq_some_iff.1 h.g0).1
theorem Bx.later {w wr w' : World} {o : Obj} (h : Bx w wr o) (hb : Below (w.heap.size + 1) wr w') : Bx w w' o :=
  ⟨h.below.trans (hb.mono (by omega)), (hb.block _ (by omega)).trans h.g0⟩
theorem Bx.all {w wr w' : World} {o : Obj} (h : Bx w wr o) (hb : Below wr.heap.size wr w') : Bx w w' o := h.later (hb.mono h.size)
theorem Bx.new {w wr : World} {o : Obj} (h : Bx w wr o) (o' : Obj) : Bx w (wr.alloc o') o := h.all ((Below.refl _ _).alloc (Nat.le_refl _) _)
theorem Bx.drewN {w wr : World} {o : Obj} (h : Bx w wr o) (n : Nat) : Bx w (wr.drewN n) o := h.all (below_drewN (Below.refl _ _) n)
/-- The same with two. -/
structure Bx2 (w wr : World) (o o' : Obj) : Prop where
  below : Below w.heap.size w wr
  g0 : wr.heap[w.heap.size]? = some o
  g1 : wr.heap[w.heap.size + 1]? = some o'
theorem Bx2.size {w wr : World} {o o' : Obj} (h : Bx2 w wr o o') : w.heap.size + 2 ≤ wr.heap.size := (Array.getElem?_eq_some_iff.1 h.g1).1
theorem Bx2.later {w wr w' : World} {o o' : Obj} (h : Bx2 w wr o o') (hb : Below (w.heap.size + 2) wr w') : Bx2 w w' o o' :=
  ⟨h.below.trans (hb.mono (by omega)), (hb.block _ (by omega)).trans h.g0, (hb.block _ (by omega)).trans h.g1⟩
theorem Bx2.all {w wr w' : World} {o o' : Obj} (h : Bx2 w wr o o') (hb : Below wr.heap.size wr w') : Bx2 w w' o o' := h.later (hb.mono h.size)
theorem Bx2.new {w wr : World} {o o' : Obj} (h : Bx2 w wr o o') (p : Obj) : Bx2 w (wr.alloc p) o o' := h.all ((Below.refl _ _).alloc (Nat.le_refl _) _)
theorem Bx2.drewN {w wr : World} {o o' : Obj} (h : Bx2 w wr o o') (n : Nat) : Bx2 w (wr.drewN n) o o' := h.all (below_drewN (Below.refl _ _) n)
/-- The same with three. -/
structure Bx3 (w wr : World) (o o' o2 : Obj) : Prop where
  below : Below w.heap.size w wr
  g0 : wr.heap[w.heap.size]? = some o
  g1 : wr.heap[w.heap.size + 1]? = some o'
  g2 : wr.heap[w.heap.size + 2]? = some o2
theorem Bx3.size {w wr : World} {o o' o2 : Obj} (h : Bx3 w wr o o' o2) : w.heap.size + 3 ≤ wr.heap.size := (Array.getElem?_eq_some_iff.1 h.g2).1
theorem Bx3.later {w wr w' : World} {o o' o2 : Obj} (h : Bx3 w wr o o' o2) (hb : Below (w.heap.size + 3) wr w') : Bx3 w w' o o' o2 :=
  ⟨h.below.trans (hb.mono (by omega)), (hb.block _ (by omega)).trans h.g0, (hb.block _ (by omega)).trans h.g1, (hb.block _ (by omega)).trans h.g2⟩
theorem Bx3.all {w wr w' : World} {o o' o2 : Obj} (h : Bx3 w wr o o' o2) (hb : Below wr.heap.size wr w') : Bx3 w w' o o' o2 := h.later (hb.mono h.size)
theorem Bx3.new {w wr : World} {o o' o2 : Obj} (h : Bx3 w wr o o' o2) (p : Obj) : Bx3 w (wr.alloc p) o o' o2 := h.all ((Below.refl _ _).alloc (Nat.le_refl _) _)
theorem Bx3.start (w : World) (o o' o2 : Obj) : Bx3 w (((w.alloc o).alloc o').alloc o2) o o' o2 := by
  refine ⟨(((Below.refl _ _).alloc (Nat.le_refl _) _).alloc (by simp) _).alloc (by simp; omega) _, ?_, ?_, ?_⟩
  · rw [Below.heap_alloc _ _ _ (by simp; omega), Below.heap_alloc _ _ _ (by simp)]; exact heap_alloc_new w o
  · rw [Below.heap_alloc _ _ _ (by simp)]; have := heap_alloc_new (w.alloc o) o'; simpa using this
  · have := heap_alloc_new ((w.alloc o).alloc o') o2; simpa using this
/-- Results of which the first is a block's whole row. -/
theorem res_row_tmp {P : Program} {fn : Func} {p u : Tmp} {ty : TypeId} (h : fn.results = #[.cell p ty, .tmp u]) (tmps : Array Value) (w : World) (g : Nat) (t : TypeId) (cs : Array Value) (fr : Nat × Nat) (d : TypeDesc)
    (hp : tmps.getD p undef = .pointer (some ⟨g, 0, none⟩)) (hg : w.heap[g]? = some (.cells cs t fr))
    (hu : P.underlying ty = some d) (hd : (match d with | .struct _ | .array _ _ => true | _ => false) = true) (hi : (P.info? ty).map (·.size) = some cs.size) :
    (results fn tmps).run P w = .ok (.tuple #[.agg cs, tmps.getD u undef]) w := by
  have hp' : tmps[p]?.getD undef = .pointer (some ⟨g, 0, none⟩) := by simpa using hp
  simp [results, h, hp', asAddr, run_loadVar_row w g t ty cs fr d hg hu hd hi]

/-- The blocks of nested data: from lo on, with the mark 0. -/
def Zl (lab : Nat → Nat) (lo : Nat) (w : World) : Nat → Prop := fun k => lab k = 0 ∧ lo ≤ k ∧ k < w.heap.size
/-- Behind the heap's end every mark is 0. -/
def Fresh (lab : Nat → Nat) (w : World) : Prop := ∀ k, w.heap.size ≤ k → lab k = 0
/-- An own list whose row has the mark i. -/
structure OL {α : Type} (ρ : Rep α) (e : TypeId) (lab : Nat → Nat) (i : Nat) (w : World) (lo : Nat) (v : Value) (l : List α) : Prop where
  own : OwnL ρ e w lo (Zl lab lo w) v l
  mark : ∀ k, v.ownBlock = some k → lab k = i
/-- A list of mark i has grown; its row's new block, if any, is marked. -/
structure Grew (lab lab' : Nat → Nat) (i : Nat) (w w' : World) : Prop where
  os : w'.os = w.os
  tape : w'.tape = w.tape
  output : w'.output = w.output
  size : w.heap.size ≤ w'.heap.size
  keep : ∀ k, k < w.heap.size → lab k ≠ i → w'.heap[k]? = w.heap[k]?
  lab : ∀ k, k < w.heap.size → lab' k = lab k
  fresh : Fresh lab' w'

section
variable {α : Type} {ρ : Rep α} {e : TypeId} {lab lab' : Nat → Nat} {i j : Nat} {w w' : World} {lo : Nat} {v v' : Value} {l : List α}
theorem ol_nil (ρ : Rep α) (e : TypeId) (lab : Nat → Nat) (i : Nat) (w : World) (lo : Nat) : OL ρ e lab i w lo (.slice none 0 0) [] := ⟨ownL_nil, fun _ h => by simp [Value.ownBlock] at h⟩
theorem fresh_none (w : World) : Fresh (fun _ => 0) w := fun _ _ => rfl
theorem Fresh.more (h : Fresh lab w) (hs : w.heap.size ≤ w'.heap.size) : Fresh lab w' := fun k hk => h k (Nat.le_trans hs hk)
theorem OL.form (h : OL ρ e lab i w lo v l) : ∃ A c, v = .slice A l.length c := h.own.form
theorem OL.lt (h : OL ρ e lab i w lo v l) : ∀ k, v.ownBlock = some k → lo ≤ k ∧ k < w.heap.size := h.own.lt
theorem OL.below (h : OL ρ e lab i w lo v l) (hb : Below w.heap.size w w') : OL ρ e lab i w' lo v l :=
  ⟨h.own.keep (fun k hk => hb.block k (h.lt k hk).2) (fun k hk => hb.block k hk.2.2) (fun k hk => ⟨hk.1, hk.2.1, Nat.lt_of_lt_of_le hk.2.2 hb.size⟩), h.mark⟩
theorem OL.set_far (h : OL ρ e lab i w lo v l) {a : Addr} (ha : a.block < lo) (u : Value) : OL ρ e lab i (w.setCell a u) lo v l :=
  ⟨h.own.keep (fun k hk => Below.heap_setCell _ _ _ _ (by have := (h.lt k hk).1; omega)) (fun k hk => Below.heap_setCell _ _ _ _ (by have := hk.2.1; omega)) (fun k hk => ⟨hk.1, hk.2.1, by simpa [World.setCell] using hk.2.2⟩), h.mark⟩
theorem OL.other (h : OL ρ e lab j w lo v l) (hg : Grew lab lab' i w w') (hij : j ≠ i) (h0 : i ≠ 0) : OL ρ e lab' j w' lo v l :=
  ⟨h.own.keep (fun k hk => hg.keep k (h.lt k hk).2 (by rw [h.mark k hk]; exact hij)) (fun k hk => hg.keep k hk.2.2 (by rw [hk.1]; exact fun e => h0 e.symm)) (fun k hk => ⟨by rw [hg.lab k hk.2.2]; exact hk.1, hk.2.1, Nat.lt_of_lt_of_le hk.2.2 hg.size⟩),
    fun k hk => by rw [hg.lab k (h.lt k hk).2]; exact h.mark k hk⟩
theorem OL.isSlc (h : OL ρ e lab i w lo v l) (hsz : 0 < ρ.sz) : IsSlc ρ w (fun k => lo ≤ k ∧ k < w.heap.size) v l := by
  obtain ⟨A, c, rfl⟩ := h.form
  refine ⟨A, _, c, rfl, h.own.slc rfl hsz (fun k hk => hk.2) (fun a ha => ?_), h.own.nil⟩
  subst ha
  exact h.lt _ (by
    obtain ⟨xs, hx, _⟩ := h.own.own
    rcases hx.2 with ⟨h1, _⟩ | ⟨g, cap, cur, h1, _⟩
    · simp at h1
    · simp only [Value.slice.injEq] at h1
      obtain ⟨h2, -, -⟩ := h1
      cases h2
      rfl)
theorem Grew.only {b : Nat} {x : World} (hg : Grew lab lab' i w w') (ho : Only b x w) (hlo : ∀ k, k < x.heap.size → lab k ≠ i) : Only b x w' :=
  ⟨hg.os.trans ho.os, hg.tape.trans ho.tape, hg.output.trans ho.output, Nat.le_trans ho.size hg.size, fun k hk hne => (hg.keep k (Nat.lt_of_lt_of_le hk ho.size) (hlo k hk)).trans (ho.block k hk hne)⟩
end

/-- What an append of one thing, out of a block of its own, leaves. -/
theorem grew_one {w : World} {α : Type} {ρ : Rep α} {x : α} {cs : List Value} {e : TypeId} {lab : Nat → Nat} {m : Nat} (hm : m ≠ 0) {lo : Nat} {v : Value} {l : List α} (hown : OL ρ e lab m w lo v l) (hfr : Fresh lab w) (hbase : lo ≤ w.heap.size) {v' : Value} {w' : World}
    (q1 : ∀ Z', (∀ k, Zl lab lo w k → Z' k) → (∀ k, Zl lab lo w k ∨ k = w.heap.size → Z' k) → OwnL ρ e w' lo Z' v' (l ++ [x])) (q2 : (w.alloc (.cells cs.toArray e)).grownBy w' v.ownBlock) (q3 : v'.ownBlock = v.ownBlock ∨ v'.ownBlock = some (w.alloc (.cells cs.toArray e)).heap.size) :
    ∃ lab', OL ρ e lab' m w' lo v' (l ++ [x]) ∧ Grew lab lab' m w w' := by
  have hlt := hown.lt
  have hb : Below w.heap.size w (w.alloc (.cells cs.toArray e)) := (Below.refl _ _).alloc (Nat.le_refl _) _
  have hmark : ∀ k, v.ownBlock = some k → lab k = m := hown.mark
  have hz2 : w.heap.size + 1 ≤ w'.heap.size := by have := q2.size; simpa using this
  have hv' : ∀ k, v'.ownBlock = some k → (v.ownBlock = some k ∧ k < w.heap.size) ∨ k = w.heap.size + 1 := by
    intro k hk
    rcases q3 with q3 | q3
    · rw [q3] at hk; exact .inl ⟨hk, (hlt k hk).2⟩
    · rw [q3] at hk; simp at hk; exact .inr hk.symm
  have q1' := q1 (fun k => (Zl lab lo w k ∨ k = w.heap.size)) (fun k hk => .inl hk) (fun k hk => hk)
  have hlt' := q1'.lt
  refine ⟨fun k => if v'.ownBlock = some k then m else lab k, ⟨q1'.mono ?_, fun k hk => by simp [hk]⟩, ⟨q2.os, q2.tape, q2.output, by omega, fun k hk hne => ?_, fun k hk => ?_, fun k hk => ?_⟩⟩
  · rintro k (hk | rfl)
    · refine ⟨?_, hk.2.1, by have := hk.2.2; omega⟩
      dsimp only
      rw [if_neg]
      · exact hk.1
      · intro e
        rcases hv' k e with ⟨e1, _⟩ | e1
        · have := hmark k e1
          rw [hk.1] at this
          exact hm this.symm
        · have := hk.2.2; omega
    · refine ⟨?_, hbase, by omega⟩
      dsimp only
      rw [if_neg]
      · exact hfr _ (Nat.le_refl _)
      · intro e
        rcases hv' _ e with ⟨e1, e2⟩ | e1 <;> omega
  · refine (q2.block k (by simp; omega) fun e => hne (hmark k e.symm)).trans (hb.block k hk)
  · split
    · next e =>
      rcases hv' k e with ⟨e1, _⟩ | e1
      · exact (hmark k e1).symm
      · omega
    · rfl
  · rw [if_neg]
    · exact hfr k (by omega)
    · intro e
      have := (hlt' k e).2
      omega

/-- One thing more, out of a block of its own, at a step of a region that draws. -/
theorem step_append_o {P : Program} (w : World) {α : Type} (ρ : Rep α) (x : α) (cs : List Value) {ops : Array Oper} {o : Oper} {a : Act} {K : Act → World → Prop} {Q : Exit → Act → World → Prop} {E : Prop} (hgd : o.guard = none) (s y : Operand) (t : TypeId)
    (ho : o.op = .call { callee := .builtin .append, args := #[s, y], argTypes := #[t, t] }) (e : TypeId)
    (i : TypeInfo) (z : Value) (bytes : Nat) (ht : P.underlying t = some (.slice e)) (hi : P.info? e = some i) (hz : i.zero = some z) (hsize : i.size = ρ.sz) (hby : i.bytes = bytes) (hzc : z.cells.size = ρ.sz) (hsz : 0 < ρ.sz) (hb1 : bytes ≤ 200)
    (lab : Nat → Nat) (m : Nat) (hm : m ≠ 0) (lo : Nat) (v : Value) (l : List α) (hs : a.eval s = v) (hown : OL ρ e lab m w lo v l) (hfr : Fresh lab w) (hR : ρ.R w (Zl lab lo w) cs x)
    (g : Nat) (hgw : g = w.heap.size) (hx : a.eval y = .slice (some ⟨g, 0, none⟩) 1 1) (hlen : l.length ≤ 33554432) (hbase : lo ≤ w.heap.size)
    (h : ∀ v' w' lab', OL ρ e lab' m w' lo v' (l ++ [x]) → Grew lab lab' m w w' → K (a.put o.dst v') w') :
    if Region.wanted o (yielded ops a.tmps) = true then Oper.wp P o a (w.alloc (.cells cs.toArray e)) K Q else E := by
  subst hgw
  have hnew := heap_alloc_new w (.cells cs.toArray e)
  have hlt := hown.lt
  have hb : Below w.heap.size w (w.alloc (.cells cs.toArray e)) := (Below.refl _ _).alloc (Nat.le_refl _) _
  have h1 := hown.below hb
  have hR' := ρ.keep hR (w' := w.alloc (.cells cs.toArray e)) (Z' := fun k => (Zl lab lo w k ∨ k = w.heap.size)) (fun k hk => hb.block k hk.2.2) (fun k hk => .inl hk)
  have hle : (l.length + 1) * bytes ≤ 33554433 * 200 := Nat.mul_le_mul (by omega) hb1
  have hmark : ∀ k, v.ownBlock = some k → lab k = m := hown.mark
  refine step_append_l _ hgd s y t ho ρ e i z bytes ht hi hz hsize hby hzc hsz lo (Zl lab lo w) v l hs (hown.own.keep (fun k hk => hb.block k (hlt k hk).2) (fun k hk => hb.block k hk.2.2) (fun k hk => hk)) (fun k => Zl lab lo w k ∨ k = w.heap.size) _ 1 1 [x] hx (slc_temp hnew hR' (.inr rfl)) ?_ ?_ (by simp; omega) (by unfold maxLen; simp; omega) (by simp; omega) ?_
  · intro k hk
    refine ⟨by simp; exact Nat.lt_succ_of_lt hk.2.2, fun e => ?_⟩
    have := hmark k e
    rw [hk.1] at this
    exact hm this.symm
  · rintro k (hk | rfl)
    · refine ⟨by simp; exact Nat.lt_succ_of_lt hk.2.2, fun e => ?_⟩
      have := hmark k e
      rw [hk.1] at this
      exact hm this.symm
    · refine ⟨by simp, fun e => ?_⟩
      have := (hlt _ e).2
      omega
  · intro v' w' q1 q2 q3
    obtain ⟨lab', h1, h2⟩ := grew_one hm hown hfr hbase q1 q2 q3
    exact h v' w' lab' h1 h2
/-- The same in a row of operations. -/
theorem wpList_append_o {P : Program} (w : World) {α : Type} (ρ : Rep α) (x : α) (cs : List Value) {ops : Array Oper} {rest : List Oper} {o : Oper} {a : Act} {Q : Exit → Act → World → Prop} (hgd : o.guard = none) (s y : Operand) (t : TypeId)
    (ho : o.op = .call { callee := .builtin .append, args := #[s, y], argTypes := #[t, t] }) (e : TypeId)
    (i : TypeInfo) (z : Value) (bytes : Nat) (ht : P.underlying t = some (.slice e)) (hi : P.info? e = some i) (hz : i.zero = some z) (hsize : i.size = ρ.sz) (hby : i.bytes = bytes) (hzc : z.cells.size = ρ.sz) (hsz : 0 < ρ.sz) (hb1 : bytes ≤ 200)
    (lab : Nat → Nat) (m : Nat) (hm : m ≠ 0) (lo : Nat) (v : Value) (l : List α) (hs : a.eval s = v) (hown : OL ρ e lab m w lo v l) (hfr : Fresh lab w) (hR : ρ.R w (Zl lab lo w) cs x)
    (g : Nat) (hgw : g = w.heap.size) (hx : a.eval y = .slice (some ⟨g, 0, none⟩) 1 1) (hlen : l.length ≤ 33554432) (hbase : lo ≤ w.heap.size)
    (h : ∀ v' w' lab', OL ρ e lab' m w' lo v' (l ++ [x]) → Grew lab lab' m w w' → wpList P ops Q rest (a.put o.dst v') w') :
    wpList P ops Q (o :: rest) a (w.alloc (.cells cs.toArray e)) := by
  subst hgw
  have hnew := heap_alloc_new w (.cells cs.toArray e)
  have hlt := hown.lt
  have hb : Below w.heap.size w (w.alloc (.cells cs.toArray e)) := (Below.refl _ _).alloc (Nat.le_refl _) _
  have h1 := hown.below hb
  have hR' := ρ.keep hR (w' := w.alloc (.cells cs.toArray e)) (Z' := fun k => (Zl lab lo w k ∨ k = w.heap.size)) (fun k hk => hb.block k hk.2.2) (fun k hk => .inl hk)
  have hle : (l.length + 1) * bytes ≤ 33554433 * 200 := Nat.mul_le_mul (by omega) hb1
  have hmark : ∀ k, v.ownBlock = some k → lab k = m := hown.mark
  refine wpList_append_l _ hgd s y t ho ρ e i z bytes ht hi hz hsize hby hzc hsz lo (Zl lab lo w) v l hs (hown.own.keep (fun k hk => hb.block k (hlt k hk).2) (fun k hk => hb.block k hk.2.2) (fun k hk => hk)) (fun k => Zl lab lo w k ∨ k = w.heap.size) _ 1 1 [x] hx (slc_temp hnew hR' (.inr rfl)) ?_ ?_ (by simp; omega) (by unfold maxLen; simp; omega) (by simp; omega) ?_
  · intro k hk
    refine ⟨by simp; exact Nat.lt_succ_of_lt hk.2.2, fun e => ?_⟩
    have := hmark k e
    rw [hk.1] at this
    exact hm this.symm
  · rintro k (hk | rfl)
    · refine ⟨by simp; exact Nat.lt_succ_of_lt hk.2.2, fun e => ?_⟩
      have := hmark k e
      rw [hk.1] at this
      exact hm this.symm
    · refine ⟨by simp, fun e => ?_⟩
      have := (hlt _ e).2
      omega
  · intro v' w' q1 q2 q3
    obtain ⟨lab', h1, h2⟩ := grew_one hm hown hfr hbase q1 q2 q3
    exact h v' w' lab' h1 h2
end Go.Proofs.YtbilddeepnnogaaGreatDoor
end
