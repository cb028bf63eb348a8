/- Arguments opened: graphs, nodes, attributes, values, tensors as they came in, with bounds on every list. What the rows of this seat share: the measures of what comes in. -/
import Derived.Test.YtkcnpnnflbibiaaZa
import Derived.Test.YtkcnpnnflbibiaaDb
import Derived.Test.YtkcnpnnflbibiaaRows
import Derived.ProofKit
import Derived.OpenShut
import Derived.ShutString
import Derived.ChangeOld
import Derived.SizedLaws
import Derived.Deep.Slices
import Derived.Deep.Fields
import Derived.ChangeSame
set_option linter.unusedVariables false
/- Arguments opened: graphs, nodes, attributes, values, tensors as they came in, with bounds on every list. -/
namespace Go.Proofs.Ytkcnpnnflbibiaa
open Go.ChangeShapes Go.WideShapes Go.ChangeAt Go.RowKit

theorem Try.own : ownKnob Try.prog.godebug = none := by kernel_rfl
theorem Try.laidOut : laidOutB Try.prog = true := by kernel_rfl
/-- A measure of what comes in, that bounds each list. -/
structure Meas {H : Type} (L : Nat) (Q : TypeId → DataW H → Prop) : Prop where
  str : ∀ t bs, Q t (.lit (.string bs)) → bs.length ≤ L
  sl : ∀ t e es sp, Try.prog.underlying t = some (.slice e) → 1 ≤ Try.prog.bytesOf e → Q t (.slice es sp) → es.length + sp.length ≤ L ∧ ∀ d ∈ es, Q e d
  agg : ∀ t fs ds, Try.prog.underlying t = some (.struct fs) → Q t (.agg ds) → ∀ (i : Nat) (f : Field) d, fs[i]? = some f → ds[i]? = some d → Q f.type d
theorem exists_list {α : Type} {P : Nat → α → Prop} : ∀ n : Nat, (∀ j, j < n → ∃ v, P j v) → ∃ l : List α, l.length = n ∧ ∀ j v, l[j]? = some v → P j v := by
  intro n
  induction n with
  | zero => intro _; exact ⟨[], rfl, fun j v h => by simp at h⟩
  | succ n ih =>
    intro h
    obtain ⟨l, hl, hp⟩ := ih fun j hj => h j (by omega)
    obtain ⟨v, hv⟩ := h n (by omega)
    refine ⟨l ++ [v], by simp [hl], fun j u hj => ?_⟩
    rcases Nat.lt_or_ge j n with hlt | hge
    · rw [List.getElem?_append_left (by omega)] at hj
      exact hp j u hj
    · rw [List.getElem?_append_right (by omega)] at hj
      have : j = n := by
        rcases Nat.eq_or_lt_of_le hge with h | h
        · exact h.symm
        · rw [List.getElem?_eq_none (by simp; omega)] at hj; cases hj
      subst this
      rw [hl, Nat.sub_self] at hj
      simp at hj
      subst hj
      exact hv
theorem add_off (b off i : Nat) : (⟨b, off, none⟩ : Addr).add i = ⟨b, off + i, none⟩ := by
  unfold Addr.add
  split
  · rename_i h; subst h; rfl
  · rfl
abbrev Here (W : World) : Nat → Prop := fun k => k < W.heap.size
section
variable {H : Type} {enc : TypeId × Value → H} {W : World} {L : Nat} {Q : TypeId → DataW H → Prop}
/-- How a type's readings lie in cells. -/
def Opens {α : Type} (enc : TypeId × Value → H) (W : World) (Q : TypeId → DataW H → Prop) (ρ : Rep α) (t : TypeId) (S : α → Prop) : Prop :=
  ∀ fuel cs x, DataW.trod enc Try.prog W 0 (fun _ => true) true fuel t cs = some x → Q t x.1 → ∃ v, ρ.R W (Here W) cs v ∧ S v
theorem open_sl (M : Meas L Q) {α : Type} {ρ : Rep α} {t e : TypeId} {S : α → Prop} (ht : Try.prog.underlying t = some (.slice e)) (hce : Try.prog.cellsOf e = ρ.sz) (hsz : 0 < ρ.sz) (hby : 1 ≤ Try.prog.bytesOf e) (hel : Opens enc W Q ρ e S)
    {fuel : Nat} {cs : List Value} {x : DataW H × List MemPlace} (h : DataW.trod enc Try.prog W 0 (fun _ => true) true fuel t cs = some x) (hq : Q t x.1) :
    ∃ l A n c, cs = [.slice A n c] ∧ Slc ρ W (Here W) A n l ∧ l.length ≤ L ∧ ∀ v ∈ l, S v := by
  rcases Go.Deep.open_slice ht h with ⟨rfl, hx⟩ | ⟨a, len, cap, m, n, D, Pl, rfl, _, hl, hm, hmm, hx, hi⟩
  · exact ⟨[], none, 0, 0, rfl, Slc.nil_, Nat.zero_le _, fun v h => by simp at h⟩
  · simp only [if_true] at hmm
    subst hmm
    subst hx
    obtain ⟨hb1, hb2⟩ := M.sl t e _ _ ht hby hq
    simp only [List.length_map, List.length_range] at hb1
    obtain ⟨l, hll, hlp⟩ := exists_list (P := fun i (v : α) => (∃ cs', ρ.R W (Here W) cs' v ∧ ∀ j, j < ρ.sz → W.cell? ((a.add (i * ρ.sz)).add j) = cs'[j]?) ∧ S v) len (fun i hi' => by
      obtain ⟨cs', hc, ht'⟩ := hi i (by omega)
      rw [hce] at hc
      obtain ⟨_, hcl, hat⟩ := World.cells?_some hc
      obtain ⟨v, hR, hS⟩ := hel n cs' _ ht' (hb2 _ (List.mem_map.2 ⟨i, List.mem_range.2 hi', rfl⟩))
      exact ⟨v, ⟨cs', hR, hat⟩, hS⟩)
    refine ⟨l, some a, len, m, rfl, ⟨hll, by omega, fun hn => ?_⟩, by omega, fun v hv => ?_⟩
    · obtain ⟨v0, hv0⟩ : ∃ v, l[0]? = some v := ⟨_, List.getElem?_eq_getElem (by omega)⟩
      obtain ⟨⟨cs0, hR0, h0⟩, _⟩ := hlp 0 v0 hv0
      have hl0 := ρ.len hR0
      have c0 := h0 0 hsz
      rw [List.getElem?_eq_getElem (by omega)] at c0
      obtain ⟨b, off, spot⟩ := a
      have hspot : spot = none := by simpa [Addr.add] using World.cell?_spot c0
      subst hspot
      have hb : b < W.heap.size := by have := World.block_lt_of_cell? W _ c0; simpa [block_of_add] using this
      refine ⟨b, off, rfl, hb, fun j v hj => ?_⟩
      obtain ⟨⟨cs', hR, hat⟩, _⟩ := hlp j v hj
      refine ⟨cs', hR, fun i hi' => ?_⟩
      rw [← hat i hi', add_of_add, add_off, Nat.add_assoc]
    · obtain ⟨j, hj⟩ := List.getElem?_of_mem hv
      exact (hlp j v hj).2
theorem opens_int3 : Opens enc W Q repInt 3 fun _ => True := by
  intro fuel cs x h _
  obtain ⟨k, rfl, _⟩ := DataW.trod_int Try.underlying3 h
  exact ⟨k, rfl, trivial⟩
theorem opens_int2 : Opens enc W Q repInt 2 fun _ => True := by
  intro fuel cs x h _
  obtain ⟨k, rfl, _⟩ := DataW.trod_int Try.underlying2 h
  exact ⟨k, rfl, trivial⟩
theorem opens_str (M : Meas L Q) : Opens enc W Q repStr 9 fun s => s.size ≤ L := by
  intro fuel cs x h hq
  obtain ⟨s, rfl, rfl, _⟩ := DataW.trod_string Try.underlying9 h
  exact ⟨s, rfl, by have := M.str _ _ hq; simpa using this⟩
structure TnB (L : Nat) (t : Tn) : Prop where
  dims : t.dims.length ≤ L
  data : t.data.length ≤ L
structure VlB (L : Nat) (v : Vl) : Prop where
  name : v.name.size ≤ L
  dims : v.dims.length ≤ L
structure NmB (L : Nat) (t : Nm) : Prop where
  name : t.name.size ≤ L
  t : TnB L t.t
structure AtB (L : Nat) (a : At) : Prop where
  name : a.name.size ≤ L
  s : a.s.size ≤ L
  t : TnB L a.t
  ints : a.ints.length ≤ L
structure NdB (L : Nat) (n : Nd) : Prop where
  op : n.op.size ≤ L
  name : n.name.size ≤ L
  out : n.out.size ≤ L
  ins : n.ins.length ≤ L
  each : ∀ s ∈ n.ins, s.size ≤ L
  attrs : n.attrs.length ≤ L
  every : ∀ a ∈ n.attrs, AtB L a
structure GrB (L : Nat) (g : Gr) : Prop where
  name : g.name.size ≤ L
  nodes : g.nodes.length ≤ L
  ins : g.ins.length ≤ L
  outs : g.outs.length ≤ L
  inits : g.inits.length ≤ L
  node : ∀ n ∈ g.nodes, NdB L n
  inp : ∀ v ∈ g.ins, VlB L v
  out : ∀ v ∈ g.outs, VlB L v
  init : ∀ t ∈ g.inits, NmB L t
theorem len3 {α : Type} {l : List α} (h : l.length = 3) : ∃ a b c, l = [a, b, c] := by match l, h with | [a, b, c], _ => exact ⟨a, b, c, rfl⟩
theorem len2 {α : Type} {l : List α} (h : l.length = 2) : ∃ a b, l = [a, b] := by match l, h with | [a, b], _ => exact ⟨a, b, rfl⟩
theorem len4 {α : Type} {l : List α} (h : l.length = 4) : ∃ a b c d, l = [a, b, c, d] := by match l, h with | [a, b, c, d], _ => exact ⟨a, b, c, d, rfl⟩
theorem len5 {α : Type} {l : List α} (h : l.length = 5) : ∃ a b c d e, l = [a, b, c, d, e] := by match l, h with | [a, b, c, d, e], _ => exact ⟨a, b, c, d, e, rfl⟩
theorem len7 {α : Type} {l : List α} (h : l.length = 7) : ∃ a b c d e f g, l = [a, b, c, d, e, f, g] := by match l, h with | [a, b, c, d, e, f, g], _ => exact ⟨a, b, c, d, e, f, g, rfl⟩
theorem len9 {α : Type} {l : List α} (h : l.length = 9) : ∃ a b c d e f g i j, l = [a, b, c, d, e, f, g, i, j] := by match l, h with | [a, b, c, d, e, f, g, i, j], _ => exact ⟨a, b, c, d, e, f, g, i, j, rfl⟩
theorem Try.cells2 : Try.prog.cellsOf 2 = 1 := by kernel_rfl
theorem Try.cells3 : Try.prog.cellsOf 3 = 1 := by kernel_rfl
theorem Try.cells9 : Try.prog.cellsOf 9 = 1 := by kernel_rfl
theorem Try.cells44 : Try.prog.cellsOf 44 = 1 := by kernel_rfl
theorem Try.cells45 : Try.prog.cellsOf 45 = 1 := by kernel_rfl
theorem Try.cells47 : Try.prog.cellsOf 47 = 3 := by kernel_rfl
theorem Try.bytes2 : 1 ≤ Try.prog.bytesOf 2 := by rw [show Try.prog.bytesOf 2 = 8 by kernel_rfl]; decide
theorem Try.bytes3 : 1 ≤ Try.prog.bytesOf 3 := by rw [show Try.prog.bytesOf 3 = 8 by kernel_rfl]; decide
theorem open_tn (M : Meas L Q) : Opens enc W Q repTn 47 (TnB L) := by
  intro fuel cs x h hq
  obtain ⟨xs, n, rfl, rfl, hcl, hxl, hf⟩ := DataW.trod_struct Try.underlying47 h
  rw [Try.cells47] at hcl
  obtain ⟨c0, c1, c2, rfl⟩ := len3 hcl
  obtain ⟨y0, y1, y2, rfl⟩ := len3 (l := xs) hxl
  have f0 : DataW.trod enc Try.prog W 0 (fun _ => true) true n 3 (([c0, c1, c2].drop 0).take (Try.prog.cellsOf 3)) = some y0 := hf 0 _ rfl
  rw [Try.cells3] at f0
  have t0 : DataW.trod enc Try.prog W 0 (fun _ => true) true n 3 [c0] = some y0 := f0
  clear f0
  have q0 : Q 3 y0.1 := M.agg 47 _ _ Try.underlying47 hq 0 _ y0.1 rfl rfl
  have f1 : DataW.trod enc Try.prog W 0 (fun _ => true) true n 44 (([c0, c1, c2].drop 1).take (Try.prog.cellsOf 44)) = some y1 := hf 1 _ rfl
  rw [Try.cells44] at f1
  have t1 : DataW.trod enc Try.prog W 0 (fun _ => true) true n 44 [c1] = some y1 := f1
  clear f1
  have q1 : Q 44 y1.1 := M.agg 47 _ _ Try.underlying47 hq 1 _ y1.1 rfl rfl
  have f2 : DataW.trod enc Try.prog W 0 (fun _ => true) true n 45 (([c0, c1, c2].drop 2).take (Try.prog.cellsOf 45)) = some y2 := hf 2 _ rfl
  rw [Try.cells45] at f2
  have t2 : DataW.trod enc Try.prog W 0 (fun _ => true) true n 45 [c2] = some y2 := f2
  clear f2
  have q2 : Q 45 y2.1 := M.agg 47 _ _ Try.underlying47 hq 2 _ y2.1 rfl rfl
  obtain ⟨k0, e0, _⟩ := DataW.trod_int Try.underlying3 t0
  simp only [List.cons.injEq, and_true] at e0
  subst e0
  obtain ⟨k1, A1, n1, b1, e1, s1, z1, v1⟩ := open_sl M Try.underlying44 Try.cells3 (by decide) Try.bytes3 opens_int3 t1 q1
  simp only [List.cons.injEq, and_true] at e1
  subst e1
  obtain ⟨k2, A2, n2, b2, e2, s2, z2, v2⟩ := open_sl M Try.underlying45 Try.cells2 (by decide) Try.bytes2 opens_int2 t2 q2
  simp only [List.cons.injEq, and_true] at e2
  subst e2
  exact ⟨⟨k0, k1, k2⟩, ⟨_, _, rfl, ⟨_, _, _, rfl, s1⟩, ⟨_, _, _, rfl, s2⟩⟩, z1, z2⟩
theorem Try.cells64 : Try.prog.cellsOf 64 = 1 := by kernel_rfl
theorem Try.cells65 : Try.prog.cellsOf 65 = 1 := by kernel_rfl
theorem Try.cells30 : Try.prog.cellsOf 30 = 1 := by kernel_rfl
theorem Try.cells31 : Try.prog.cellsOf 31 = 1 := by kernel_rfl
theorem Try.cells32 : Try.prog.cellsOf 32 = 1 := by kernel_rfl
theorem Try.cells81 : Try.prog.cellsOf 81 = 3 := by kernel_rfl
theorem Try.cells69 : Try.prog.cellsOf 69 = 4 := by kernel_rfl
theorem Try.cells88 : Try.prog.cellsOf 88 = 9 := by kernel_rfl
theorem Try.cells67 : Try.prog.cellsOf 67 = 5 := by kernel_rfl
theorem Try.cells34 : Try.prog.cellsOf 34 = 5 := by kernel_rfl
theorem Try.bytes9 : 1 ≤ Try.prog.bytesOf 9 := by rw [show Try.prog.bytesOf 9 = 16 by kernel_rfl]; decide
theorem Try.bytes81 : 1 ≤ Try.prog.bytesOf 81 := by rw [show Try.prog.bytesOf 81 = 48 by kernel_rfl]; decide
theorem Try.bytes69 : 1 ≤ Try.prog.bytesOf 69 := by rw [show Try.prog.bytesOf 69 = 72 by kernel_rfl]; decide
theorem Try.bytes88 : 1 ≤ Try.prog.bytesOf 88 := by rw [show Try.prog.bytesOf 88 = 136 by kernel_rfl]; decide
theorem Try.bytes67 : 1 ≤ Try.prog.bytesOf 67 := by rw [show Try.prog.bytesOf 67 = 96 by kernel_rfl]; decide
theorem open_vl (M : Meas L Q) : Opens enc W Q repVl 81 (VlB L) := by
  intro fuel cs x h hq
  obtain ⟨xs, n, rfl, rfl, hcl, hxl, hf⟩ := DataW.trod_struct Try.underlying81 h
  rw [Try.cells81] at hcl
  obtain ⟨c0, c1, c2, rfl⟩ := len3 hcl
  obtain ⟨y0, y1, y2, rfl⟩ := len3 (l := xs) hxl
  have f0 : DataW.trod enc Try.prog W 0 (fun _ => true) true n 9 (([c0, c1, c2].drop 0).take (Try.prog.cellsOf 9)) = some y0 := hf 0 _ rfl
  rw [Try.cells9] at f0
  have t0 : DataW.trod enc Try.prog W 0 (fun _ => true) true n 9 [c0] = some y0 := f0
  clear f0
  have q0 : Q 9 y0.1 := M.agg 81 _ _ Try.underlying81 hq 0 _ y0.1 rfl rfl
  have f1 : DataW.trod enc Try.prog W 0 (fun _ => true) true n 3 (([c0, c1, c2].drop 1).take (Try.prog.cellsOf 3)) = some y1 := hf 1 _ rfl
  rw [Try.cells3] at f1
  have t1 : DataW.trod enc Try.prog W 0 (fun _ => true) true n 3 [c1] = some y1 := f1
  clear f1
  have q1 : Q 3 y1.1 := M.agg 81 _ _ Try.underlying81 hq 1 _ y1.1 rfl rfl
  have f2 : DataW.trod enc Try.prog W 0 (fun _ => true) true n 44 (([c0, c1, c2].drop 2).take (Try.prog.cellsOf 44)) = some y2 := hf 2 _ rfl
  rw [Try.cells44] at f2
  have t2 : DataW.trod enc Try.prog W 0 (fun _ => true) true n 44 [c2] = some y2 := f2
  clear f2
  have q2 : Q 44 y2.1 := M.agg 81 _ _ Try.underlying81 hq 2 _ y2.1 rfl rfl
  obtain ⟨k0, e0, z0⟩ := opens_str M _ _ _ t0 q0
  have e0 : [c0] = [.string k0] := e0
  simp only [List.cons.injEq, and_true] at e0
  subst e0
  obtain ⟨k1, e1, _⟩ := DataW.trod_int Try.underlying3 t1
  simp only [List.cons.injEq, and_true] at e1
  subst e1
  obtain ⟨k2, A2, n2, b2, e2, s2, z2, v2⟩ := open_sl M Try.underlying44 Try.cells3 (by decide) Try.bytes3 opens_int3 t2 q2
  simp only [List.cons.injEq, and_true] at e2
  subst e2
  exact ⟨⟨k0, k1, k2⟩, ⟨_, rfl, ⟨_, _, _, rfl, s2⟩⟩, z0, z2⟩
theorem open_nm (M : Meas L Q) : Opens enc W Q repNm 69 (NmB L) := by
  intro fuel cs x h hq
  obtain ⟨xs, n, rfl, rfl, hcl, hxl, hf⟩ := DataW.trod_struct Try.underlying69 h
  rw [Try.cells69] at hcl
  obtain ⟨c0, c1, c2, c3, rfl⟩ := len4 hcl
  obtain ⟨y0, y1, rfl⟩ := len2 (l := xs) hxl
  have f0 : DataW.trod enc Try.prog W 0 (fun _ => true) true n 9 (([c0, c1, c2, c3].drop 0).take (Try.prog.cellsOf 9)) = some y0 := hf 0 _ rfl
  rw [Try.cells9] at f0
  have t0 : DataW.trod enc Try.prog W 0 (fun _ => true) true n 9 [c0] = some y0 := f0
  clear f0
  have q0 : Q 9 y0.1 := M.agg 69 _ _ Try.underlying69 hq 0 _ y0.1 rfl rfl
  have f1 : DataW.trod enc Try.prog W 0 (fun _ => true) true n 47 (([c0, c1, c2, c3].drop 1).take (Try.prog.cellsOf 47)) = some y1 := hf 1 _ rfl
  rw [Try.cells47] at f1
  have t1 : DataW.trod enc Try.prog W 0 (fun _ => true) true n 47 [c1, c2, c3] = some y1 := f1
  clear f1
  have q1 : Q 47 y1.1 := M.agg 69 _ _ Try.underlying69 hq 1 _ y1.1 rfl rfl
  obtain ⟨k0, e0, z0⟩ := opens_str M _ _ _ t0 q0
  have e0 : [c0] = [.string k0] := e0
  simp only [List.cons.injEq, and_true] at e0
  subst e0
  obtain ⟨k1, ⟨d1, g1, e1, s1, r1⟩, z1⟩ := open_tn M _ _ _ t1 q1
  simp only [List.cons.injEq, and_true] at e1
  obtain ⟨rfl, rfl, rfl⟩ := e1
  exact ⟨⟨k0, k1⟩, ⟨_, _, rfl, s1, r1⟩, z0, z1⟩
theorem open_at (M : Meas L Q) : Opens enc W Q repAt 88 (AtB L) := by
  intro fuel cs x h hq
  obtain ⟨xs, n, rfl, rfl, hcl, hxl, hf⟩ := DataW.trod_struct Try.underlying88 h
  rw [Try.cells88] at hcl
  obtain ⟨c0, c1, c2, c3, c4, c5, c6, c7, c8, rfl⟩ := len9 hcl
  obtain ⟨y0, y1, y2, y3, y4, y5, y6, rfl⟩ := len7 (l := xs) hxl
  have f0 : DataW.trod enc Try.prog W 0 (fun _ => true) true n 9 (([c0, c1, c2, c3, c4, c5, c6, c7, c8].drop 0).take (Try.prog.cellsOf 9)) = some y0 := hf 0 _ rfl
  rw [Try.cells9] at f0
  have t0 : DataW.trod enc Try.prog W 0 (fun _ => true) true n 9 [c0] = some y0 := f0
  clear f0
  have q0 : Q 9 y0.1 := M.agg 88 _ _ Try.underlying88 hq 0 _ y0.1 rfl rfl
  have f1 : DataW.trod enc Try.prog W 0 (fun _ => true) true n 3 (([c0, c1, c2, c3, c4, c5, c6, c7, c8].drop 1).take (Try.prog.cellsOf 3)) = some y1 := hf 1 _ rfl
  rw [Try.cells3] at f1
  have t1 : DataW.trod enc Try.prog W 0 (fun _ => true) true n 3 [c1] = some y1 := f1
  clear f1
  have q1 : Q 3 y1.1 := M.agg 88 _ _ Try.underlying88 hq 1 _ y1.1 rfl rfl
  have f2 : DataW.trod enc Try.prog W 0 (fun _ => true) true n 2 (([c0, c1, c2, c3, c4, c5, c6, c7, c8].drop 2).take (Try.prog.cellsOf 2)) = some y2 := hf 2 _ rfl
  rw [Try.cells2] at f2
  have t2 : DataW.trod enc Try.prog W 0 (fun _ => true) true n 2 [c2] = some y2 := f2
  clear f2
  have q2 : Q 2 y2.1 := M.agg 88 _ _ Try.underlying88 hq 2 _ y2.1 rfl rfl
  have f3 : DataW.trod enc Try.prog W 0 (fun _ => true) true n 2 (([c0, c1, c2, c3, c4, c5, c6, c7, c8].drop 3).take (Try.prog.cellsOf 2)) = some y3 := hf 3 _ rfl
  rw [Try.cells2] at f3
  have t3 : DataW.trod enc Try.prog W 0 (fun _ => true) true n 2 [c3] = some y3 := f3
  clear f3
  have q3 : Q 2 y3.1 := M.agg 88 _ _ Try.underlying88 hq 3 _ y3.1 rfl rfl
  have f4 : DataW.trod enc Try.prog W 0 (fun _ => true) true n 9 (([c0, c1, c2, c3, c4, c5, c6, c7, c8].drop 4).take (Try.prog.cellsOf 9)) = some y4 := hf 4 _ rfl
  rw [Try.cells9] at f4
  have t4 : DataW.trod enc Try.prog W 0 (fun _ => true) true n 9 [c4] = some y4 := f4
  clear f4
  have q4 : Q 9 y4.1 := M.agg 88 _ _ Try.underlying88 hq 4 _ y4.1 rfl rfl
  have f5 : DataW.trod enc Try.prog W 0 (fun _ => true) true n 47 (([c0, c1, c2, c3, c4, c5, c6, c7, c8].drop 5).take (Try.prog.cellsOf 47)) = some y5 := hf 5 _ rfl
  rw [Try.cells47] at f5
  have t5 : DataW.trod enc Try.prog W 0 (fun _ => true) true n 47 [c5, c6, c7] = some y5 := f5
  clear f5
  have q5 : Q 47 y5.1 := M.agg 88 _ _ Try.underlying88 hq 5 _ y5.1 rfl rfl
  have f6 : DataW.trod enc Try.prog W 0 (fun _ => true) true n 45 (([c0, c1, c2, c3, c4, c5, c6, c7, c8].drop 8).take (Try.prog.cellsOf 45)) = some y6 := hf 6 _ rfl
  rw [Try.cells45] at f6
  have t6 : DataW.trod enc Try.prog W 0 (fun _ => true) true n 45 [c8] = some y6 := f6
  clear f6
  have q6 : Q 45 y6.1 := M.agg 88 _ _ Try.underlying88 hq 6 _ y6.1 rfl rfl
  obtain ⟨k0, e0, z0⟩ := opens_str M _ _ _ t0 q0
  have e0 : [c0] = [.string k0] := e0
  simp only [List.cons.injEq, and_true] at e0
  subst e0
  obtain ⟨k1, e1, _⟩ := DataW.trod_int Try.underlying3 t1
  simp only [List.cons.injEq, and_true] at e1
  subst e1
  obtain ⟨k2, e2, _⟩ := DataW.trod_int Try.underlying2 t2
  simp only [List.cons.injEq, and_true] at e2
  subst e2
  obtain ⟨k3, e3, _⟩ := DataW.trod_int Try.underlying2 t3
  simp only [List.cons.injEq, and_true] at e3
  subst e3
  obtain ⟨k4, e4, z4⟩ := opens_str M _ _ _ t4 q4
  have e4 : [c4] = [.string k4] := e4
  simp only [List.cons.injEq, and_true] at e4
  subst e4
  obtain ⟨k5, ⟨d5, g5, e5, s5, r5⟩, z5⟩ := open_tn M _ _ _ t5 q5
  simp only [List.cons.injEq, and_true] at e5
  obtain ⟨rfl, rfl, rfl⟩ := e5
  obtain ⟨k6, A6, n6, b6, e6, s6, z6, v6⟩ := open_sl M Try.underlying45 Try.cells2 (by decide) Try.bytes2 opens_int2 t6 q6
  simp only [List.cons.injEq, and_true] at e6
  subst e6
  exact ⟨⟨k0, k1, k2, k3, k4, k5, k6⟩, ⟨_, _, _, rfl, s5, r5, ⟨_, _, _, rfl, s6⟩⟩, z0, z4, z5, z6⟩
theorem open_nd (M : Meas L Q) : Opens enc W Q repNd 67 (NdB L) := by
  intro fuel cs x h hq
  obtain ⟨xs, n, rfl, rfl, hcl, hxl, hf⟩ := DataW.trod_struct Try.underlying67 h
  rw [Try.cells67] at hcl
  obtain ⟨c0, c1, c2, c3, c4, rfl⟩ := len5 hcl
  obtain ⟨y0, y1, y2, y3, y4, rfl⟩ := len5 (l := xs) hxl
  have f0 : DataW.trod enc Try.prog W 0 (fun _ => true) true n 9 (([c0, c1, c2, c3, c4].drop 0).take (Try.prog.cellsOf 9)) = some y0 := hf 0 _ rfl
  rw [Try.cells9] at f0
  have t0 : DataW.trod enc Try.prog W 0 (fun _ => true) true n 9 [c0] = some y0 := f0
  clear f0
  have q0 : Q 9 y0.1 := M.agg 67 _ _ Try.underlying67 hq 0 _ y0.1 rfl rfl
  have f1 : DataW.trod enc Try.prog W 0 (fun _ => true) true n 9 (([c0, c1, c2, c3, c4].drop 1).take (Try.prog.cellsOf 9)) = some y1 := hf 1 _ rfl
  rw [Try.cells9] at f1
  have t1 : DataW.trod enc Try.prog W 0 (fun _ => true) true n 9 [c1] = some y1 := f1
  clear f1
  have q1 : Q 9 y1.1 := M.agg 67 _ _ Try.underlying67 hq 1 _ y1.1 rfl rfl
  have f2 : DataW.trod enc Try.prog W 0 (fun _ => true) true n 64 (([c0, c1, c2, c3, c4].drop 2).take (Try.prog.cellsOf 64)) = some y2 := hf 2 _ rfl
  rw [Try.cells64] at f2
  have t2 : DataW.trod enc Try.prog W 0 (fun _ => true) true n 64 [c2] = some y2 := f2
  clear f2
  have q2 : Q 64 y2.1 := M.agg 67 _ _ Try.underlying67 hq 2 _ y2.1 rfl rfl
  have f3 : DataW.trod enc Try.prog W 0 (fun _ => true) true n 9 (([c0, c1, c2, c3, c4].drop 3).take (Try.prog.cellsOf 9)) = some y3 := hf 3 _ rfl
  rw [Try.cells9] at f3
  have t3 : DataW.trod enc Try.prog W 0 (fun _ => true) true n 9 [c3] = some y3 := f3
  clear f3
  have q3 : Q 9 y3.1 := M.agg 67 _ _ Try.underlying67 hq 3 _ y3.1 rfl rfl
  have f4 : DataW.trod enc Try.prog W 0 (fun _ => true) true n 65 (([c0, c1, c2, c3, c4].drop 4).take (Try.prog.cellsOf 65)) = some y4 := hf 4 _ rfl
  rw [Try.cells65] at f4
  have t4 : DataW.trod enc Try.prog W 0 (fun _ => true) true n 65 [c4] = some y4 := f4
  clear f4
  have q4 : Q 65 y4.1 := M.agg 67 _ _ Try.underlying67 hq 4 _ y4.1 rfl rfl
  obtain ⟨k0, e0, z0⟩ := opens_str M _ _ _ t0 q0
  have e0 : [c0] = [.string k0] := e0
  simp only [List.cons.injEq, and_true] at e0
  subst e0
  obtain ⟨k1, e1, z1⟩ := opens_str M _ _ _ t1 q1
  have e1 : [c1] = [.string k1] := e1
  simp only [List.cons.injEq, and_true] at e1
  subst e1
  obtain ⟨k2, A2, n2, b2, e2, s2, z2, v2⟩ := open_sl M Try.underlying64 Try.cells9 (by decide) Try.bytes9 (opens_str M) t2 q2
  simp only [List.cons.injEq, and_true] at e2
  subst e2
  obtain ⟨k3, e3, z3⟩ := opens_str M _ _ _ t3 q3
  have e3 : [c3] = [.string k3] := e3
  simp only [List.cons.injEq, and_true] at e3
  subst e3
  obtain ⟨k4, A4, n4, b4, e4, s4, z4, v4⟩ := open_sl M Try.underlying65 Try.cells88 (by decide) Try.bytes88 (open_at M) t4 q4
  simp only [List.cons.injEq, and_true] at e4
  subst e4
  exact ⟨⟨k0, k1, k2, k3, k4⟩, ⟨_, _, rfl, ⟨_, _, _, rfl, s2⟩, ⟨_, _, _, rfl, s4⟩⟩, z0, z1, z3, z2, v2, z4, v4⟩
theorem open_gr (M : Meas L Q) : Opens enc W Q repGr 34 (GrB L) := by
  intro fuel cs x h hq
  obtain ⟨xs, n, rfl, rfl, hcl, hxl, hf⟩ := DataW.trod_struct Try.underlying34 h
  rw [Try.cells34] at hcl
  obtain ⟨c0, c1, c2, c3, c4, rfl⟩ := len5 hcl
  obtain ⟨y0, y1, y2, y3, y4, rfl⟩ := len5 (l := xs) hxl
  have f0 : DataW.trod enc Try.prog W 0 (fun _ => true) true n 9 (([c0, c1, c2, c3, c4].drop 0).take (Try.prog.cellsOf 9)) = some y0 := hf 0 _ rfl
  rw [Try.cells9] at f0
  have t0 : DataW.trod enc Try.prog W 0 (fun _ => true) true n 9 [c0] = some y0 := f0
  clear f0
  have q0 : Q 9 y0.1 := M.agg 34 _ _ Try.underlying34 hq 0 _ y0.1 rfl rfl
  have f1 : DataW.trod enc Try.prog W 0 (fun _ => true) true n 30 (([c0, c1, c2, c3, c4].drop 1).take (Try.prog.cellsOf 30)) = some y1 := hf 1 _ rfl
  rw [Try.cells30] at f1
  have t1 : DataW.trod enc Try.prog W 0 (fun _ => true) true n 30 [c1] = some y1 := f1
  clear f1
  have q1 : Q 30 y1.1 := M.agg 34 _ _ Try.underlying34 hq 1 _ y1.1 rfl rfl
  have f2 : DataW.trod enc Try.prog W 0 (fun _ => true) true n 31 (([c0, c1, c2, c3, c4].drop 2).take (Try.prog.cellsOf 31)) = some y2 := hf 2 _ rfl
  rw [Try.cells31] at f2
  have t2 : DataW.trod enc Try.prog W 0 (fun _ => true) true n 31 [c2] = some y2 := f2
  clear f2
  have q2 : Q 31 y2.1 := M.agg 34 _ _ Try.underlying34 hq 2 _ y2.1 rfl rfl
  have f3 : DataW.trod enc Try.prog W 0 (fun _ => true) true n 31 (([c0, c1, c2, c3, c4].drop 3).take (Try.prog.cellsOf 31)) = some y3 := hf 3 _ rfl
  rw [Try.cells31] at f3
  have t3 : DataW.trod enc Try.prog W 0 (fun _ => true) true n 31 [c3] = some y3 := f3
  clear f3
  have q3 : Q 31 y3.1 := M.agg 34 _ _ Try.underlying34 hq 3 _ y3.1 rfl rfl
  have f4 : DataW.trod enc Try.prog W 0 (fun _ => true) true n 32 (([c0, c1, c2, c3, c4].drop 4).take (Try.prog.cellsOf 32)) = some y4 := hf 4 _ rfl
  rw [Try.cells32] at f4
  have t4 : DataW.trod enc Try.prog W 0 (fun _ => true) true n 32 [c4] = some y4 := f4
  clear f4
  have q4 : Q 32 y4.1 := M.agg 34 _ _ Try.underlying34 hq 4 _ y4.1 rfl rfl
  obtain ⟨k0, e0, z0⟩ := opens_str M _ _ _ t0 q0
  have e0 : [c0] = [.string k0] := e0
  simp only [List.cons.injEq, and_true] at e0
  subst e0
  obtain ⟨k1, A1, n1, b1, e1, s1, z1, v1⟩ := open_sl M Try.underlying30 Try.cells67 (by decide) Try.bytes67 (open_nd M) t1 q1
  simp only [List.cons.injEq, and_true] at e1
  subst e1
  obtain ⟨k2, A2, n2, b2, e2, s2, z2, v2⟩ := open_sl M Try.underlying31 Try.cells81 (by decide) Try.bytes81 (open_vl M) t2 q2
  simp only [List.cons.injEq, and_true] at e2
  subst e2
  obtain ⟨k3, A3, n3, b3, e3, s3, z3, v3⟩ := open_sl M Try.underlying31 Try.cells81 (by decide) Try.bytes81 (open_vl M) t3 q3
  simp only [List.cons.injEq, and_true] at e3
  subst e3
  obtain ⟨k4, A4, n4, b4, e4, s4, z4, v4⟩ := open_sl M Try.underlying32 Try.cells69 (by decide) Try.bytes69 (open_nm M) t4 q4
  simp only [List.cons.injEq, and_true] at e4
  subst e4
  exact ⟨⟨k0, k1, k2, k3, k4⟩, ⟨_, _, _, _, rfl, ⟨_, _, _, rfl, s1⟩, ⟨_, _, _, rfl, s2⟩, ⟨_, _, _, rfl, s3⟩, ⟨_, _, _, rfl, s4⟩⟩, z0, z1, z2, z3, z4, v1, v2, v3, v4⟩
end
end Go.Proofs.Ytkcnpnnflbibiaa

/- What the rows of this seat share: the measures of what comes in. -/
namespace Go.Proofs.Ytkcnpnnflbibiaa
open Go.ChangeShapes Go.WideShapes Go.ChangeAt Go.RowKit

section
variable {H : Type}
theorem weightsAll_mem {P : Program} {e : TypeId} : ∀ {l : List (DataW H)} {d : DataW H}, d ∈ l → ∀ n ∈ d.weights P e, n ∈ DataW.weightsAll P e l := by
  intro l
  induction l with
  | nil => intro d h; cases h
  | cons x l ih =>
    intro d h n hn
    simp only [DataW.weightsAll, List.mem_append]
    rcases List.mem_cons.1 h with rfl | h
    · exact .inl hn
    · exact .inr (ih h n hn)
theorem weightsEach_mem {P : Program} : ∀ {ts : List TypeId} {ds : List (DataW H)} {i : Nat} {t : TypeId} {d : DataW H}, ts[i]? = some t → ds[i]? = some d → ∀ n ∈ d.weights P t, n ∈ DataW.weightsEach P ts ds := by
  intro ts
  induction ts with
  | nil => intro ds i t d h; simp at h
  | cons u ts ih =>
    intro ds i t d h g n hn
    match ds, i, h, g with
    | [], _, _, g => simp at g
    | x :: ds, 0, h, g =>
      simp at h g
      subst h g
      simp only [DataW.weightsEach, List.mem_append]
      exact .inl hn
    | x :: ds, i + 1, h, g =>
      simp only [DataW.weightsEach, List.mem_append]
      exact .inr (ih (by simpa using h) (by simpa using g) n hn)
theorem meas_reach : Meas (H := H) 140737488351232 (fun t d => ∀ n ∈ d.weights Try.prog t, n ≤ 140737488351232) where
  str := fun t bs h => h bs.length (by simp [DataW.weights])
  sl := fun t e es sp ht hb h => by
    have hw : DataW.weights Try.prog t (.slice es sp) = (es.length + sp.length) * Try.prog.bytesOf e :: (DataW.weightsAll Try.prog e es ++ DataW.weightsAll Try.prog e sp) := by rw [DataW.weights, ht]
    rw [hw] at h
    refine ⟨Nat.le_trans ?_ (h _ List.mem_cons_self), fun d hd n hn => h n ?_⟩
    · exact Nat.le_mul_of_pos_right _ hb
    · exact List.mem_cons_of_mem _ (List.mem_append_left _ (weightsAll_mem hd n hn))
  agg := fun t fs ds ht h i f d hf hd n hn => h n (by
    have hw : DataW.weights Try.prog t (.agg ds) = DataW.weightsEach Try.prog (fs.toList.map (·.type)) ds := by rw [DataW.weights, ht]
    rw [hw]
    refine weightsEach_mem (i := i) ?_ hd n hn
    rw [List.getElem?_map, Array.getElem?_toList, hf]; rfl)
namespace bulks
theorem one_le (d : DataW H) : 1 ≤ Rows.uptoBulk d := by
  cases d with
  | lit l => cases l <;> simp [Rows.uptoBulk]
  | nil => simp [Rows.uptoBulk]
  | ptr d => simp [Rows.uptoBulk]
  | slice elems spare => simp [Rows.uptoBulk]
  | agg parts => simp [Rows.uptoBulk]
  | iface t d => simp [Rows.uptoBulk]
  | map entries => simp [Rows.uptoBulk]
  | held h => simp [Rows.uptoBulk]
theorem part_le {d : DataW H} {l : List (DataW H)} (h : d ∈ l) : Rows.uptoBulk d ≤ Rows.uptoBulkAll l := by
  induction l with
  | nil => cases h
  | cons x r ih =>
    simp only [Rows.uptoBulkAll]
    cases List.mem_cons.1 h with
    | inl e => subst e; omega
    | inr e => have := ih e; omega
theorem length_le (l : List (DataW H)) : l.length ≤ Rows.uptoBulkAll l := by
  induction l with
  | nil => simp [Rows.uptoBulkAll]
  | cons x r ih => have := one_le x; simp only [Rows.uptoBulkAll, List.length_cons]; omega
end bulks
theorem meas_bulk (M : Nat) : Meas (H := H) M (fun _ d => Rows.uptoBulk d ≤ M) where
  str := fun t bs h => by simp only [Rows.uptoBulk] at h; omega
  sl := fun t e es sp ht hb h => by
    simp only [Rows.uptoBulk] at h
    have h1 := bulks.length_le es
    have h2 := bulks.length_le sp
    exact ⟨by omega, fun d hd => by have := bulks.part_le hd; omega⟩
  agg := fun t fs ds ht h i f d hf hd => by
    simp only [Rows.uptoBulk] at h
    have := bulks.part_le (List.mem_of_getElem? hd)
    omega
theorem sized_arg {P : Program} {ts : List TypeId} {ds : List (DataW H)} (h : (DataW.weightsEach P ts ds).all (· ≤ reachBytes) = true) {i : Nat} {t : TypeId} {d : DataW H} (ht : ts[i]? = some t) (hd : ds[i]? = some d) : ∀ n ∈ d.weights P t, n ≤ 140737488351232 := fun n hn => by
  have := List.all_eq_true.1 h n (weightsEach_mem ht hd n hn)
  exact of_decide_eq_true this
/-- A tensor that came in. -/
theorem arg_tn {enc : TypeId × Value → H} {W : World} {d : DataW H} {p : List MemPlace} {v : Value} (h : DataW.Trod enc Try.prog W 0 (fun _ => true) true 47 v d p) (hw : ∀ n ∈ d.weights Try.prog 47, n ≤ 140737488351232) :
    ∃ t, repTn.R W (Here W) v.cells.toList t ∧ TnB 140737488351232 t := by
  obtain ⟨fuel, hf⟩ := h
  exact open_tn meas_reach fuel _ _ hf hw
end
end Go.Proofs.Ytkcnpnnflbibiaa
