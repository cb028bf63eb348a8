import Derived.Test.YtbilddeepnnogaaGreatDoorBam
import Derived.Maps.OwnSet
import Derived.Maps.Views
import Derived.StringKeys
import Derived.Test.YtbilddeepnnogaaGreatDoorLam
import Derived.Deep.OwnRows
set_option linter.unusedVariables false
set_option linter.unusedSimpArgs false
/- Maps with strings for keys: what such a one holds, as a function. -/
section
set_option linter.unusedVariables false
set_option maxRecDepth 100000
namespace Go.Proofs.YtbilddeepnnogaaGreatDoor
open Go.RowKit Go.Maps

def rdV : Value → Option (DataW Value × List MemPlace) := fun v => some (.held v, [])
def keyL (s : ByteArray) : Lit := .string s.data.toList
theorem keyL_inj {s t : ByteArray} (h : keyL s = keyL t) : s = t := by
  unfold keyL at h
  simp only [Lit.string.injEq] at h
  rcases s with ⟨s⟩
  rcases t with ⟨t⟩
  rw [ByteArray.mk.injEq]
  exact Array.toList_inj.1 h
theorem lawS : Keyed Tryz.prog 9 := string_keyed Tryz.underlying9
theorem keyS {s : ByteArray} (h : s.size ≤ 1000) : keyOf Tryz.prog 9 (.string s) = some (keyL s) := Go.WideMaps.keyOf_string_mk Tryz.underlying9 (by unfold maxLen; omega)
/-- Block b is a map of n keys that holds f. -/
def MapIs (w : World) (b : Nat) (f : ByteArray → Option Value) (n : Nat) : Prop :=
  ∃ D, w.ownsMap Tryz.prog 9 rdV b n D ∧ size D = n ∧ ∀ s, has D (keyL s) = (f s).isSome ∧ ∀ z, D.atKey (keyL s) (.held z) = .held ((f s).getD z)
theorem ownsMap_size {H : Type} {P : Program} {k : TypeId} {R : Value → Option (DataW H × List MemPlace)} {w : World} {b m : Nat} {D : DataW H} (h : w.ownsMap P k R b m D) : w.ownsMap P k R b (size D) D := by
  obtain ⟨es, clock, hb, F, hs, rfl⟩ := h
  exact ⟨es, clock, hb, F, by simp [Maps.size, length_sorted], rfl⟩
section
variable {w w' : World} {b n : Nat} {f : ByteArray → Option Value}
theorem mapIs_made (w : World) : MapIs (w.alloc (.map #[] 0)) w.heap.size (fun _ => none) 0 :=
  ⟨_, World.ownsMap_made w _ _ _, rfl, fun s => ⟨rfl, fun z => rfl⟩⟩
theorem mapIs_new (h : w.heap[b]? = some (.map #[] 0)) : MapIs w b (fun _ => none) 0 :=
  ⟨.map [], ⟨#[], 0, h, ⟨by simp, MapKept.stamped_empty 0, by simp⟩, Nat.le_refl _, rfl⟩, rfl, fun s => ⟨rfl, fun z => rfl⟩⟩
theorem MapIs.lt (h : MapIs w b f n) : b < w.heap.size := by
  obtain ⟨D, h, _⟩ := h
  exact h.lt
theorem MapIs.ne_cell (h : MapIs w b f n) {c : Nat} {o : Nat} {u : Value} (hc : w.cell? ⟨c, o, none⟩ = some u) : c ≠ b := by
  rintro rfl
  obtain ⟨D, ⟨es, clock, hb, _⟩, _⟩ := h
  simp [World.cell?, hb] at hc
theorem MapIs.keep (h : MapIs w b f n) (hk : w'.heap[b]? = w.heap[b]?) : MapIs w' b f n := by
  obtain ⟨D, ⟨es, clock, hb, F, hs, hD⟩, h2⟩ := h
  exact ⟨D, ⟨es, clock, hk.trans hb, F, hs, hD⟩, h2⟩
theorem MapIs.below (h : MapIs w b f n) (hb : Below w.heap.size w w') : MapIs w' b f n := h.keep (hb.block b h.lt)
variable {t e : TypeId} {z v : Value} {s : ByteArray}
theorem MapIs.look (h : MapIs w b f n) (ht : Tryz.prog.underlying t = some (.map 9 e)) (hz : (zeroValue e).run Tryz.prog w = .ok z w) (hs : s.size ≤ 1000) :
    (Instr.lookup t (.map (some b)) (.string s) false).run Tryz.prog w = .ok ((f s).getD z) w := by
  obtain ⟨D, h1, _, h2⟩ := h
  obtain ⟨v, ps, hr, hv⟩ := h1.lookup lawS ht hz (R := rdV) (zd := .held z) (zp := []) rfl (keyS hs)
  rw [(h2 s).2 z] at hv
  unfold rdV at hv
  injection hv with hv
  injection hv with hv
  injection hv with hv
  rw [hr, hv]
theorem MapIs.look2 (h : MapIs w b f n) (ht : Tryz.prog.underlying t = some (.map 9 e)) (hz : (zeroValue e).run Tryz.prog w = .ok z w) (hs : s.size ≤ 1000) :
    (Instr.lookup t (.map (some b)) (.string s) true).run Tryz.prog w = .ok (.tuple #[(f s).getD z, .bool (f s).isSome]) w := by
  obtain ⟨D, h1, _, h2⟩ := h
  obtain ⟨v, ps, hr, hv⟩ := h1.look_ok lawS ht hz (R := rdV) (zd := .held z) (zp := []) rfl (keyS hs)
  rw [(h2 s).2 z] at hv
  unfold rdV at hv
  injection hv with hv
  injection hv with hv
  injection hv with hv
  rw [hr, hv, (h2 s).1]
theorem MapIs.len (h : MapIs w b f n) (ht : Tryz.prog.underlying t = some (.map 9 e)) (ty : TypeId) : (Builtin.len_ #[t] ty #[.map (some b)]).run Tryz.prog w = .ok (.int .i64 n) w := by
  obtain ⟨D, h1, rfl, h2⟩ := h
  exact h1.len ht ty
def upd (f : ByteArray → Option Value) (s : ByteArray) (v : Value) : ByteArray → Option Value := fun t => if t = s then some v else f t
theorem MapIs.put (h : MapIs w b f n) (ht : Tryz.prog.underlying t = some (.map 9 e)) (hs : s.size ≤ 1000) (hn : n ≤ 1000) (v : Value) :
    ∃ w', (Instr.mapUpdate t (.map (some b)) (.string s) v).run Tryz.prog w = .ok () w' ∧ MapIs w' b (upd f s v) (if (f s).isSome then n else n + 1) ∧ w.grownBy w' (some b) := by
  obtain ⟨D, h1, h0, h2⟩ := h
  obtain ⟨w', hr, h3, h4⟩ := h1.update (d := .held v) (ps := []) lawS ht (by unfold maxLen; omega) (keyS hs) rfl
  have hk : WideAt.IsKeyLit (keyL s) := trivial
  refine ⟨w', hr, ⟨D.put (keyL s) (.held v), ?_, ?_, fun t => ?_⟩, h4⟩
  · have h5 := ownsMap_size h3
    rw [size_put (h1.tidy lawS), (h2 s).1, h0] at h5
    exact h5
  · rw [size_put (h1.tidy lawS), (h2 s).1, h0]
  · by_cases e : t = s
    · subst e
      exact ⟨by rw [has_put_same h1.isMap hk]; simp [upd], fun z => by rw [atKey_put_same h1.isMap hk]; simp [upd]⟩
    · have ne : keyL t ≠ keyL s := fun h => e (keyL_inj h)
      exact ⟨by rw [has_put_other ne, (h2 t).1]; simp [upd, e], fun z => by rw [atKey_put_other ne, (h2 t).2]; simp [upd, e]⟩
theorem grown_only (h : w.grownBy w' (some b)) : Only b w w' := ⟨h.os, h.tape, h.output, h.size, fun k hk hb => h.block k hk (fun e => hb (by injection e))⟩
theorem grown_size (h : w.grownBy w' (some b)) : w.heap.size ≤ w'.heap.size := h.size
end
end Go.Proofs.YtbilddeepnnogaaGreatDoor
end
/- Blocks that a call has laid, in their order: fixed ones and such as turn. -/
section
set_option linter.unusedVariables false
set_option maxRecDepth 100000
namespace Go.Proofs.YtbilddeepnnogaaGreatDoor
open Go.RowKit

/-- Behind w lie the blocks os; 'none': one that turns. -/
structure Fx (w wr : World) (os : List (Option Obj)) : Prop where
  below : Below w.heap.size w wr
  size : w.heap.size + os.length ≤ wr.heap.size
  at_ : ∀ i o, os[i]? = some (some o) → wr.heap[w.heap.size + i]? = some o
section
variable {w wr w' : World} {os : List (Option Obj)}
theorem Fx.start (w : World) : Fx w w [] := ⟨Below.refl _ _, Nat.le_refl _, fun i o h => by simp at h⟩
theorem Fx.b0 {o : Obj} (h : Fx w wr os) (e : os[0]? = some (some o)) : wr.heap[w.heap.size]? = some o := h.at_ 0 o e
theorem Fx.b1 {o : Obj} (h : Fx w wr os) (e : os[1]? = some (some o)) : wr.heap[w.heap.size + 1]? = some o := h.at_ 1 o e
theorem Fx.b2 {o : Obj} (h : Fx w wr os) (e : os[2]? = some (some o)) : wr.heap[w.heap.size + 1 + 1]? = some o := h.at_ 2 o e
theorem Fx.b3 {o : Obj} (h : Fx w wr os) (e : os[3]? = some (some o)) : wr.heap[w.heap.size + 1 + 1 + 1]? = some o := h.at_ 3 o e
theorem Fx.b4 {o : Obj} (h : Fx w wr os) (e : os[4]? = some (some o)) : wr.heap[w.heap.size + 1 + 1 + 1 + 1]? = some o := h.at_ 4 o e
theorem Fx.b5 {o : Obj} (h : Fx w wr os) (e : os[5]? = some (some o)) : wr.heap[w.heap.size + 1 + 1 + 1 + 1 + 1]? = some o := h.at_ 5 o e
theorem Fx.b6 {o : Obj} (h : Fx w wr os) (e : os[6]? = some (some o)) : wr.heap[w.heap.size + 1 + 1 + 1 + 1 + 1 + 1]? = some o := h.at_ 6 o e
theorem Fx.b7 {o : Obj} (h : Fx w wr os) (e : os[7]? = some (some o)) : wr.heap[w.heap.size + 1 + 1 + 1 + 1 + 1 + 1 + 1]? = some o := h.at_ 7 o e
theorem Fx.all (h : Fx w wr os) (hb : Below wr.heap.size wr w') : Fx w w' os :=
  ⟨h.below.trans (hb.mono (by have := h.size; omega)), Nat.le_trans h.size hb.size, fun i o e => by
    have h1 : i < os.length := (List.getElem?_eq_some_iff.1 e).1
    have h2 := h.size
    exact (hb.block _ (by omega)).trans (h.at_ i o e)⟩
theorem Fx.later (h : Fx w wr os) (hb : Below (w.heap.size + os.length) wr w') : Fx w w' os :=
  ⟨h.below.trans (hb.mono (by omega)), Nat.le_trans h.size hb.size, fun i o e => by
    have h1 : i < os.length := (List.getElem?_eq_some_iff.1 e).1
    exact (hb.block _ (by omega)).trans (h.at_ i o e)⟩
theorem Fx.new (h : Fx w wr os) (o : Obj) : Fx w (wr.alloc o) os := h.all (below_new wr o)
theorem Fx.drewN (h : Fx w wr os) (n : Nat) : Fx w (wr.drewN n) os := h.all (below_drewN (Below.refl _ _) n)
theorem Fx.drew (h : Fx w wr os) : Fx w wr.drew os := h.all (Below.refl _ _).drew
/-- One of those that turn has turned. -/
theorem Fx.only (h : Fx w wr os) {i : Nat} (hi : os[i]? = some none) (ho : Only (w.heap.size + i) wr w') : Fx w w' os :=
  ⟨h.below.trans (ho.below (by omega) (by have := h.size; omega)), Nat.le_trans h.size ho.size, fun j o e => by
    have h1 : j < os.length := (List.getElem?_eq_some_iff.1 e).1
    have h2 := h.size
    refine (ho.block _ (by omega) ?_).trans (h.at_ j o e)
    intro e2
    have e3 : j = i := by omega
    subst e3
    rw [hi] at e
    cases e⟩
/-- A new one, at the end of the row. -/
theorem Fx.push (h : Fx w wr os) (hs : wr.heap.size = w.heap.size + os.length) (o : Obj) : Fx w (wr.alloc o) (os ++ [some o]) :=
  ⟨(h.new o).below, by simp; omega, fun i o' e => by
    rcases Nat.lt_or_ge i os.length with h1 | h1
    · rw [List.getElem?_append_left h1] at e
      exact (h.new o).at_ i o' e
    · rw [List.getElem?_append_right h1] at e
      rcases Nat.eq_zero_or_pos (i - os.length) with h2 | h2
      · rw [h2] at e
        simp at e
        subst e
        have h3 : w.heap.size + i = wr.heap.size := by omega
        rw [h3]
        exact heap_alloc_new wr o
      · rw [List.getElem?_eq_none (by simp; omega)] at e
        cases e⟩
theorem Fx.free (h : Fx w wr os) (os' : List (Option Obj)) (hl : os'.length = os.length) (ho : ∀ (i : Nat) (o : Obj), os'[i]? = some (some o) → os[i]? = some (some o)) : Fx w wr os' :=
  ⟨h.below, by rw [hl]; exact h.size, fun i o e => h.at_ i o (ho i o e)⟩
end
theorem fx1 (w : World) (a : Obj) : Fx w (w.alloc a) [some a] := (Fx.start w).push rfl a
theorem fx2 (w : World) (a b : Obj) : Fx w ((w.alloc a).alloc b) [some a, some b] := (fx1 w a).push (by simp) b
theorem fx3 (w : World) (a b c : Obj) : Fx w (((w.alloc a).alloc b).alloc c) [some a, some b, some c] := (fx2 w a b).push (by simp) c
theorem fx4 (w : World) (a b c d : Obj) : Fx w ((((w.alloc a).alloc b).alloc c).alloc d) [some a, some b, some c, some d] := (fx3 w a b c).push (by simp) d
theorem fx5 (w : World) (a b c d e : Obj) : Fx w (((((w.alloc a).alloc b).alloc c).alloc d).alloc e) [some a, some b, some c, some d, some e] := (fx4 w a b c d).push (by simp) e
theorem newX {F : World → Prop} {w : World} {a : Obj} (h : ∀ w', Fx w w' [some a] → F w') : F (w.alloc a) := h _ (fx1 w a)
theorem newX2 {F : World → Prop} {w : World} {a b : Obj} (h : ∀ w', Fx w w' [some a, some b] → F w') : F ((w.alloc a).alloc b) := h _ (fx2 w a b)
theorem newX3 {F : World → Prop} {w : World} {a b c : Obj} (h : ∀ w', Fx w w' [some a, some b, some c] → F w') : F (((w.alloc a).alloc b).alloc c) := h _ (fx3 w a b c)
theorem cells1 {w : World} {g : Nat} {t : TypeId} {c0 : Value} (h : w.heap[g]? = some (.cells #[c0] t (0, 0))) : w.cell? ⟨g, 0, none⟩ = some c0 ∧ w.frozen? ⟨g, 0, none⟩ = false :=
  ⟨cell_of_row _ _ 0 _ t (0, 0) h, frozen_row h 0⟩
theorem zero3 (w : World) : (zeroValue 3).run Tryz.prog w = .ok (.int .i64 0) w := by kernel_rfl
theorem Tryz.und142 : Tryz.prog.underlying 142 = some (.map 9 3) := by kernel_rfl
/-- A thing whose cells lead nowhere. -/
def Flat {α : Type} (ρ : Rep α) : Prop := ∀ (w w' : World) (Z Z' : Nat → Prop) cs x, ρ.R w Z cs x → ρ.R w' Z' cs x
theorem flatInt : Flat repInt := fun _ _ _ _ _ _ h => h
theorem flatStr : Flat repStr := fun _ _ _ _ _ _ h => h
theorem OwnL.flat {α : Type} {ρ : Rep α} {e : TypeId} {w w' : World} {B : Nat} {Z Z' : Nat → Prop} {v : Value} {l : List α} (h : OwnL ρ e w B Z v l) (hf : Flat ρ) (hv : ∀ k, v.ownBlock = some k → w'.heap[k]? = w.heap[k]?) : OwnL ρ e w' B Z' v l := by
  obtain ⟨xs, hx, hr⟩ := h.own
  refine ⟨⟨xs, ⟨hx.1, ?_⟩, fun j x hj => ?_⟩, h.small, h.nil⟩
  · rcases hx.2 with h1 | ⟨g, cap, cur, e1, hB, hg, r⟩
    · exact .inl h1
    · exact .inr ⟨g, cap, cur, e1, hB, (hv g (by rw [e1]; rfl)).trans hg, r⟩
  · obtain ⟨cs, h1, h2⟩ := hr j x hj
    exact ⟨cs, hf _ _ _ _ _ _ h1, h2⟩
/-- One flat thing more. -/
theorem wpList_append_f {P : Program} (w : World) {α : Type} (ρ : Rep α) (hf : Flat ρ) (x : α) (cs : List Value) {ops : Array Oper} {rest : List Oper} {o : Oper} {a : Act} {Q : Exit → Act → World → Prop} (hgd : o.guard = none) (s y : Operand) (t : TypeId)
    (ho : o.op = .call { callee := .builtin .append, args := #[s, y], argTypes := #[t, t] }) (e : TypeId)
    (i : TypeInfo) (z : Value) (bytes : Nat) (ht : P.underlying t = some (.slice e)) (hi : P.info? e = some i) (hz : i.zero = some z) (hsize : i.size = ρ.sz) (hby : i.bytes = bytes) (hzc : z.cells.size = ρ.sz) (hsz : 0 < ρ.sz) (hb1 : bytes ≤ 200)
    (lo : Nat) (v : Value) (l : List α) (hs : a.eval s = v) (hown : OwnL ρ e w lo (fun _ => False) v l) (hR : ρ.R w (fun _ => False) cs x)
    (g : Nat) (hgw : g = w.heap.size) (hx : a.eval y = .slice (some ⟨g, 0, none⟩) 1 1) (hlen : l.length ≤ 33554432) (hbase : lo ≤ w.heap.size)
    (h : ∀ v' w', OwnL ρ e w' lo (fun _ => False) v' (l ++ [x]) → Below lo w w' → wpList P ops Q rest (a.put o.dst v') w') :
    wpList P ops Q (o :: rest) a (w.alloc (.cells cs.toArray e)) := by
  subst hgw
  have hnew := heap_alloc_new w (.cells cs.toArray e)
  have hlt := hown.lt
  have hb : Below w.heap.size w (w.alloc (.cells cs.toArray e)) := (Below.refl _ _).alloc (Nat.le_refl _) _
  have hle : (l.length + 1) * bytes ≤ 33554433 * 200 := Nat.mul_le_mul (by omega) hb1
  refine wpList_append_l _ hgd s y t ho ρ e i z bytes ht hi hz hsize hby hzc hsz lo (fun _ => False) v l hs (hown.keep (fun k hk => hb.block k (hlt k hk).2) (fun k hk => hk.elim) (fun k hk => hk)) (fun k => k = w.heap.size) _ 1 1 [x] hx (slc_temp hnew (hf _ _ _ _ _ _ hR) rfl) ?_ ?_ (by simp; omega) (by unfold maxLen; simp; omega) (by simp; omega) ?_
  · intro k hk; exact hk.elim
  · rintro k rfl
    refine ⟨by simp, fun e => ?_⟩
    have := (hlt _ e).2
    omega
  · intro v' w' q1 q2 q3
    have q4 := q1 (fun k => k = w.heap.size) (fun k hk => hk.elim) (fun k hk => hk)
    refine h v' w' (q4.flat hf (fun _ _ => rfl)) ?_
    refine ⟨q2.os, q2.tape, q2.output, by have := q2.size; simp at this; omega, fun k hk => ?_⟩
    have hkw : k < w.heap.size := by omega
    refine (q2.block k (by simp; omega) (fun e => ?_)).trans (hb.block k hkw)
    have := (hlt k e.symm).1
    omega
/-- Things as their cells. -/
def repRaw (n : Nat) : Rep (List Value) where
  sz := n
  R := fun _ _ cs x => cs = x ∧ x.length = n ∧ ∀ u ∈ x, u.oneCell' = true
  len := by rintro _ _ _ _ ⟨rfl, h, _⟩; exact h
  one := by rintro _ _ _ _ ⟨rfl, _, h⟩; exact h
  keep := by rintro _ _ _ _ _ _ h _ _; exact h
theorem flatRaw (n : Nat) : Flat (repRaw n) := fun _ _ _ _ _ _ h => h
/-- What such a list's cells are. -/
theorem OwnL.raw {n : Nat} {e : TypeId} {w : World} {B : Nat} {Z : Nat → Prop} {v : Value} {l : List (List Value)} (h : OwnL (repRaw n) e w B Z v l) (hn : 0 < n) (hl : 0 < l.length) : ∃ b c, v = .slice (some ⟨b, 0, none⟩) l.length c ∧ B ≤ b ∧ b < w.heap.size ∧ ∀ j cs, l[j]? = some cs → ∀ i, i < n → w.cell? ⟨b, j * n + i, none⟩ = cs[i]? := by
  obtain ⟨xs, hx, hr⟩ := h.own
  have hlt := h.lt
  have hx' := hx
  rcases hx.2 with ⟨h1, h2⟩ | ⟨g, cap, cur, h1, hg, hh, _⟩
  · omega
  · subst h1
    refine ⟨g, cap, rfl, hg, (hlt g rfl).2, fun j cs hj i hi => ?_⟩
    obtain ⟨cs', ⟨rfl, _⟩, q⟩ := hr j cs hj
    have hj' : j < l.length := (List.getElem?_eq_some_iff.1 hj).1
    have e := hx'.cellAt (j * n + i) (by
      have : (j + 1) * n ≤ l.length * n := Nat.mul_le_mul_right _ hj'
      rw [Nat.add_mul] at this
      show _ < l.length * n
      omega)
    exact e.trans (q i hi)
/-- The numbers from 0 on. -/
def upL (n : Nat) : List Int := (List.range n).map (fun i : Nat => (i : Int))
theorem upL_succ (n : Nat) : upL (n + 1) = upL n ++ [(n : Int)] := by simp [upL, List.range_succ]
theorem upL_length (n : Nat) : (upL n).length = n := by simp [upL]
theorem upL_get {n j : Nat} (h : j < n) : (upL n)[j]? = some (j : Int) := by simp [upL, h]
/-- The slice at A holds the numbers from 0 on. -/
def UpTo (w : World) (A : Option Addr) (n : Nat) : Prop := ∃ b off, A = some ⟨b, off, none⟩ ∧ b < w.heap.size ∧ ∀ j, j < n → w.cell? ⟨b, off + j, none⟩ = some (.int .i64 j)
theorem UpTo.below {w w' : World} {A : Option Addr} {n : Nat} (h : UpTo w A n) (hb : Below w.heap.size w w') : UpTo w' A n := by
  obtain ⟨b, off, rfl, h1, h2⟩ := h
  exact ⟨b, off, rfl, Nat.lt_of_lt_of_le h1 hb.size, fun j hj => (hb.cell (p := ⟨b, off + j, none⟩) h1).trans (h2 j hj)⟩
theorem OwnL.upTo {w : World} {B n : Nat} {Z : Nat → Prop} {v : Value} (h : OwnL repInt 3 w B Z v (upL n)) (hn : 0 < n) : ∃ A c, v = .slice A n c ∧ UpTo w A n := by
  obtain ⟨A, c, rfl⟩ := h.form
  have hl := upL_length n
  rw [hl] at h ⊢
  have hlt := h.lt
  refine ⟨A, c, rfl, ?_⟩
  have hs := h.slc (Z' := fun k => Z k ∨ k < w.heap.size) hl.symm (by decide) (fun k hk => .inl hk) (fun a e => by
    subst e
    have hx := h.own
    obtain ⟨xs, hx, _⟩ := hx
    rcases hx.2 with ⟨h1, _⟩ | ⟨g, cap, cur, h1, _⟩
    · simp at h1
    · simp only [Value.slice.injEq] at h1
      obtain ⟨h2, -, -⟩ := h1
      cases h2
      exact .inr (hlt _ rfl).2)
  obtain ⟨b, off, rfl, hb, hc⟩ := hs.at_ hn
  refine ⟨b, off, rfl, ?_, fun j hj => ?_⟩
  · obtain ⟨cs, q1, q2⟩ := hc 0 0 (by rw [upL_get hn]; rfl)
    have := q2 0 (by decide)
    rw [show cs = [.int .i64 0] from q1] at this
    exact World.block_lt_of_cell? w _ this
  · obtain ⟨cs, q1, q2⟩ := hc j j (upL_get hj)
    have := q2 0 (by decide)
    rw [show cs = [.int .i64 j] from q1] at this
    simpa [repInt] using this
/-- An own list: what it leads to lies from lo on, and not in its row. -/
def OZ {α : Type} (ρ : Rep α) (e : TypeId) (w : World) (lo : Nat) (v : Value) (l : List α) : Prop := ∃ Z : Nat → Prop, OwnL ρ e w lo Z v l ∧ ∀ k, Z k → lo ≤ k ∧ k < w.heap.size ∧ v.ownBlock ≠ some k
section
variable {α : Type} {ρ : Rep α} {e : TypeId} {w w' : World} {lo : Nat} {v : Value} {l : List α}
theorem oz_nil : OZ ρ e w lo (.slice none 0 0) [] := ⟨fun _ => False, ownL_nil, fun _ h => h.elim⟩
theorem OZ.keep (h : OZ ρ e w lo v l) (hk : ∀ k, lo ≤ k → k < w.heap.size → w'.heap[k]? = w.heap[k]?) (hs : w.heap.size ≤ w'.heap.size) : OZ ρ e w' lo v l := by
  obtain ⟨Z, h1, h2⟩ := h
  exact ⟨Z, h1.keep (fun k e => hk k (h1.lt k e).1 (h1.lt k e).2) (fun k hz => hk k (h2 k hz).1 (h2 k hz).2.1) (fun _ h => h), fun k hz => ⟨(h2 k hz).1, Nat.lt_of_lt_of_le (h2 k hz).2.1 hs, (h2 k hz).2.2⟩⟩
theorem OZ.below (h : OZ ρ e w lo v l) (hb : Below w.heap.size w w') : OZ ρ e w' lo v l := h.keep (fun k _ hk => hb.block k hk) hb.size
theorem OZ.form (h : OZ ρ e w lo v l) : ∃ A c, v = .slice A l.length c := by
  obtain ⟨Z, h1, _⟩ := h
  exact h1.form
theorem OZ.row_lt (h : OZ ρ e w lo v l) : ∀ k, v.ownBlock = some k → lo ≤ k ∧ k < w.heap.size := by
  obtain ⟨Z, h1, _⟩ := h
  exact h1.lt
theorem OZ.isSlc (h : OZ ρ e w lo v l) (hsz : 0 < ρ.sz) : IsSlc ρ w (fun k => lo ≤ k ∧ k < w.heap.size) v l := by
  obtain ⟨A, c, rfl⟩ := h.form
  have hlt := h.row_lt
  obtain ⟨Z, h1, h2⟩ := h
  refine ⟨A, _, c, rfl, h1.slc rfl hsz (fun k hk => ⟨(h2 k hk).1, (h2 k hk).2.1⟩) (fun a ha => ?_), h1.nil⟩
  subst ha
  exact hlt _ (by
    obtain ⟨xs, hx, _⟩ := h1.own
    rcases hx.2 with ⟨h1, _⟩ | ⟨g, cap, cur, h1, _⟩
    · simp at h1
    · simp only [Value.slice.injEq] at h1
      obtain ⟨h2, -, -⟩ := h1
      cases h2
      rfl)
end
/-- One thing more, which leads to such memory. -/
theorem wpList_append_z {P : Program} (w : World) {α : Type} (ρ : Rep α) (x : α) (cs : List Value) {ops : Array Oper} {rest : List Oper} {o : Oper} {a : Act} {Q : Exit → Act → World → Prop} (hgd : o.guard = none) (s y : Operand) (t : TypeId)
    (ho : o.op = .call { callee := .builtin .append, args := #[s, y], argTypes := #[t, t] }) (e : TypeId)
    (i : TypeInfo) (z : Value) (bytes : Nat) (ht : P.underlying t = some (.slice e)) (hi : P.info? e = some i) (hz : i.zero = some z) (hsize : i.size = ρ.sz) (hby : i.bytes = bytes) (hzc : z.cells.size = ρ.sz) (hsz : 0 < ρ.sz) (hb1 : bytes ≤ 200)
    (lo : Nat) (v : Value) (l : List α) (hs : a.eval s = v) (hown : OZ ρ e w lo v l) (Zc : Nat → Prop) (hR : ρ.R w Zc cs x) (hZc : ∀ k, Zc k → lo ≤ k ∧ k < w.heap.size ∧ v.ownBlock ≠ some k)
    (g : Nat) (hgw : g = w.heap.size) (hx : a.eval y = .slice (some ⟨g, 0, none⟩) 1 1) (hlen : l.length ≤ 33554432) (hbase : lo ≤ w.heap.size)
    (h : ∀ v' w', OZ ρ e w' lo v' (l ++ [x]) → w.grownBy w' v.ownBlock → wpList P ops Q rest (a.put o.dst v') w') :
    wpList P ops Q (o :: rest) a (w.alloc (.cells cs.toArray e)) := by
  subst hgw
  have hnew := heap_alloc_new w (.cells cs.toArray e)
  have hb : Below w.heap.size w (w.alloc (.cells cs.toArray e)) := (Below.refl _ _).alloc (Nat.le_refl _) _
  have hle : (l.length + 1) * bytes ≤ 33554433 * 200 := Nat.mul_le_mul (by omega) hb1
  obtain ⟨Z, h1, h2⟩ := hown
  have hlt := h1.lt
  refine wpList_append_l _ hgd s y t ho ρ e i z bytes ht hi hz hsize hby hzc hsz lo Z v l hs (h1.keep (fun k hk => hb.block k (hlt k hk).2) (fun k hk => hb.block k (h2 k hk).2.1) (fun k hk => hk)) (fun k => Zc k ∨ k = w.heap.size) _ 1 1 [x] hx (slc_temp hnew (ρ.keep hR (fun k hk => hb.block k (hZc k hk).2.1) (fun k hk => .inl hk)) (.inr rfl)) ?_ ?_ (by simp; omega) (by unfold maxLen; simp; omega) (by simp; omega) ?_
  · intro k hk
    exact ⟨by simp; have := (h2 k hk).2.1; omega, (h2 k hk).2.2⟩
  · rintro k (hk | rfl)
    · exact ⟨by simp; have := (hZc k hk).2.1; omega, (hZc k hk).2.2⟩
    · refine ⟨by simp, fun e => ?_⟩
      have := (hlt _ e).2
      omega
  · intro v' w' q1 q2 q3
    have q4 := q1 (fun k => Z k ∨ Zc k ∨ k = w.heap.size) (fun k hk => .inl hk) (fun k hk => .inr hk)
    have hsz2 : w.heap.size + 1 ≤ w'.heap.size := by have := q2.size; simpa using this
    refine h v' w' ⟨_, q4, ?_⟩ ⟨q2.os, q2.tape, q2.output, by omega, fun k hk hne => (q2.block k (by simp; omega) hne).trans (hb.block k hk)⟩
    have hv' : ∀ k, k < w.heap.size + 1 → v.ownBlock ≠ some k → v'.ownBlock ≠ some k := by
      intro k hk hne e
      rcases q3 with q3 | q3
      · rw [q3] at e; exact hne e
      · rw [q3] at e
        simp at e
        omega
    rintro k (hk | hk | rfl)
    · obtain ⟨a1, a2, a3⟩ := h2 k hk
      exact ⟨a1, by omega, hv' k (by omega) a3⟩
    · obtain ⟨a1, a2, a3⟩ := hZc k hk
      exact ⟨a1, by omega, hv' k (by omega) a3⟩
    · exact ⟨hbase, by omega, hv' _ (by omega) (fun e => by have := (hlt _ e).2; omega)⟩
/-- The same at a step of a region that draws. -/
theorem step_append_z {P : Program} (w : World) {α : Type} (ρ : Rep α) (x : α) (cs : List Value) {ops : Array Oper} {o : Oper} {a : Act} {K : Act → World → Prop} {Q : Exit → Act → World → Prop} {E : Prop} (hgd : o.guard = none) (s y : Operand) (t : TypeId)
    (ho : o.op = .call { callee := .builtin .append, args := #[s, y], argTypes := #[t, t] }) (e : TypeId)
    (i : TypeInfo) (z : Value) (bytes : Nat) (ht : P.underlying t = some (.slice e)) (hi : P.info? e = some i) (hz : i.zero = some z) (hsize : i.size = ρ.sz) (hby : i.bytes = bytes) (hzc : z.cells.size = ρ.sz) (hsz : 0 < ρ.sz) (hb1 : bytes ≤ 200)
    (lo : Nat) (v : Value) (l : List α) (hs : a.eval s = v) (hown : OZ ρ e w lo v l) (Zc : Nat → Prop) (hR : ρ.R w Zc cs x) (hZc : ∀ k, Zc k → lo ≤ k ∧ k < w.heap.size ∧ v.ownBlock ≠ some k)
    (g : Nat) (hgw : g = w.heap.size) (hx : a.eval y = .slice (some ⟨g, 0, none⟩) 1 1) (hlen : l.length ≤ 33554432) (hbase : lo ≤ w.heap.size)
    (h : ∀ v' w', OZ ρ e w' lo v' (l ++ [x]) → w.grownBy w' v.ownBlock → K (a.put o.dst v') w') :
    if Region.wanted o (yielded ops a.tmps) = true then Oper.wp P o a (w.alloc (.cells cs.toArray e)) K Q else E := by
  subst hgw
  have hnew := heap_alloc_new w (.cells cs.toArray e)
  have hb : Below w.heap.size w (w.alloc (.cells cs.toArray e)) := (Below.refl _ _).alloc (Nat.le_refl _) _
  have hle : (l.length + 1) * bytes ≤ 33554433 * 200 := Nat.mul_le_mul (by omega) hb1
  obtain ⟨Z, h1, h2⟩ := hown
  have hlt := h1.lt
  refine step_append_l _ hgd s y t ho ρ e i z bytes ht hi hz hsize hby hzc hsz lo Z v l hs (h1.keep (fun k hk => hb.block k (hlt k hk).2) (fun k hk => hb.block k (h2 k hk).2.1) (fun k hk => hk)) (fun k => Zc k ∨ k = w.heap.size) _ 1 1 [x] hx (slc_temp hnew (ρ.keep hR (fun k hk => hb.block k (hZc k hk).2.1) (fun k hk => .inl hk)) (.inr rfl)) ?_ ?_ (by simp; omega) (by unfold maxLen; simp; omega) (by simp; omega) ?_
  · intro k hk
    exact ⟨by simp; have := (h2 k hk).2.1; omega, (h2 k hk).2.2⟩
  · rintro k (hk | rfl)
    · exact ⟨by simp; have := (hZc k hk).2.1; omega, (hZc k hk).2.2⟩
    · refine ⟨by simp, fun e => ?_⟩
      have := (hlt _ e).2
      omega
  · intro v' w' q1 q2 q3
    have q4 := q1 (fun k => Z k ∨ Zc k ∨ k = w.heap.size) (fun k hk => .inl hk) (fun k hk => .inr hk)
    have hsz2 : w.heap.size + 1 ≤ w'.heap.size := by have := q2.size; simpa using this
    refine h v' w' ⟨_, q4, ?_⟩ ⟨q2.os, q2.tape, q2.output, by omega, fun k hk hne => (q2.block k (by simp; omega) hne).trans (hb.block k hk)⟩
    have hv' : ∀ k, k < w.heap.size + 1 → v.ownBlock ≠ some k → v'.ownBlock ≠ some k := by
      intro k hk hne e
      rcases q3 with q3 | q3
      · rw [q3] at e; exact hne e
      · rw [q3] at e
        simp at e
        omega
    rintro k (hk | hk | rfl)
    · obtain ⟨a1, a2, a3⟩ := h2 k hk
      exact ⟨a1, by omega, hv' k (by omega) a3⟩
    · obtain ⟨a1, a2, a3⟩ := hZc k hk
      exact ⟨a1, by omega, hv' k (by omega) a3⟩
    · exact ⟨hbase, by omega, hv' _ (by omega) (fun e => by have := (hlt _ e).2; omega)⟩
theorem make_bools (n : Nat) (hn : n ≤ 1000) (w : World) : (Instr.makeSlice 133 (.int .i64 (n : Int)) (.int .i64 (n : Int))).run Tryz.prog w = .ok (.slice (some ⟨w.heap.size, 0, none⟩) n n) (w.alloc (.cells (madeCells #[.bool false] n) 4)) :=
  run_make_row' (P := Tryz.prog) 133 4 (.bool false) 1 Tryz.underlying133 (by kernel_rfl) rfl .i64 .i64 n (by omega) (by omega) w
end Go.Proofs.YtbilddeepnnogaaGreatDoor
end
