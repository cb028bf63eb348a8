/- An argument that is a list of fields, under the bound. The first part is turned from the guide's words. -/
import Derived.Test.YtpnieegaemfffaaXc
import Derived.Test.YtpnieegaemfffaaBulk
import Derived.Deep.Slices
import Derived.Deep.Fields
import Derived.ChangeSame
namespace Go.Proofs.Ytpnieegaemfffaa.args
open Go.ChangeShapes Go.WideShapes Go.Deep
section
variable {H : Type} {enc : TypeId × Value → H} {P : Program} {w : World} {base : Nat} {spare : Nat → Bool} {held : Bool}
theorem open_slice_fields {t e : TypeId} {fs : Array Field} {fuel : Nat} {cs : List Value} {x : DataW H × List MemPlace} (ht : P.underlying t = some (.slice e)) (he : P.underlying e = some (.struct fs))
    (hone : oneCellFields P fs = true) (hC : P.cellsOf e = fs.size) (h : DataW.trod enc P w base spare held fuel t cs = some x) :
    (cs = [.slice none 0 0] ∧ x = (.nil, [])) ∨
    ∃ (a : Addr) (len cap m : Nat) (D : Nat → DataW H) (Pl : Nat → List MemPlace), cs = [.slice (some a) len cap] ∧ base ≤ a.block ∧ len ≤ cap ∧ cap ≤ maxLen ∧ m = (if spare a.block then cap else len) ∧
      x = (.slice ((List.range len).map D) ((List.range (m - len)).map fun j => D (len + j)), MemPlace.row a (m * fs.size) ++ (List.range m).flatMap Pl) ∧
      ∀ i, i < m → ∃ (ys : List (DataW H × List MemPlace)) (n : Nat), D i = .agg (ys.map (·.1)) ∧ Pl i = ys.flatMap (·.2) ∧ ys.length = fs.size ∧
        ∀ (j : Nat) (f : Field), fs[j]? = some f → ∃ (v : Value) (y : DataW H × List MemPlace), w.cell? (a.add (i * fs.size + j)) = some v ∧ ys[j]? = some y ∧ DataW.trod enc P w base spare held n f.type [v] = some y := by
  rcases open_slice ht h with h0 | ⟨a, len, cap, m, n, D, Pl, hcs, hb, hl, hm, hmm, hx, hi⟩
  · exact .inl h0
  · refine .inr ⟨a, len, cap, m, D, Pl, hcs, hb, hl, hm, hmm, by rw [hC] at hx; exact hx, fun i him => ?_⟩
    obtain ⟨cs', hc, ht'⟩ := hi i him
    rw [hC] at hc
    obtain ⟨ys, n', hn', hy, hlen, hyl, hf⟩ := DataW.trod_struct he ht'
    obtain ⟨_, hcl, hat⟩ := World.cells?_some hc
    simp only [Prod.mk.injEq] at hy
    refine ⟨ys, n', hy.1, hy.2, hyl, fun j f hj => ?_⟩
    obtain ⟨ho, hk⟩ := hone_of hone j f hj
    have hjl : j < fs.size := (Array.getElem?_eq_some_iff.1 hj).1
    have hcell := hat j hjl
    have hv : cs'[j]? = some (cs'[j]'(by omega)) := List.getElem?_eq_getElem (by omega)
    have h1 := hf j f hj
    rw [ho, hk] at h1
    have hone' : (cs'.drop j).take 1 = [cs'[j]'(by omega)] := by
      rw [List.drop_eq_getElem_cons (by omega)]
      rfl
    rw [hone'] at h1
    have hys : ys[j]? = some (ys[j]'(by omega)) := List.getElem?_eq_getElem (by omega)
    refine ⟨_, _, ?_, hys, h1.trans hys⟩
    rw [← Go.Deep.add_add, hcell, hv]
end
end Go.Proofs.Ytpnieegaemfffaa.args
namespace Go.Proofs.Ytpnieegaemfffaa
open Go.ChangeShapes Go.WideShapes Go.ChangeAt Go.RowKit

theorem Try.cells35' : Try.prog.cellsOf 35 = 4 := by kernel_rfl
theorem wf_i64 {k : Int} (h : (Lit.int .i64 k).wf = true) : -9223372036854775808 ≤ k ∧ k ≤ 9223372036854775807 := by
  simp [Lit.wf] at h
  have h1 : IntKind.i64.min = -9223372036854775808 := by decide
  have h2 : IntKind.i64.max = 9223372036854775807 := by decide
  omega
theorem form_size (f : Fd) : (formB f).size ≤ 20 + f.b.size := by
  have h1 : (headB f).size ≤ 10 := venc_sz _
  have h2 : (contB f).size ≤ 10 + f.b.size := by
    unfold contB
    split
    · have := venc_sz f.u; omega
    · split
      · rw [leS_size]; omega
      · split
        · rw [leS_size]; omega
        · rw [ByteArray.size_append]
          have := venc_sz f.b.size
          omega
  unfold formB
  rw [ByteArray.size_append]
  omega
theorem text_bulk {H : Type} (D : Nat → DataW H) (F : Nat → Fd) : ∀ xs : List Nat, (∀ i ∈ xs, (F i).b.size + 5 ≤ Rows.uptoBulk (D i)) → (textB (xs.map F)).size ≤ 20 * Rows.uptoBulkAll (xs.map D) := by
  intro xs
  induction xs with
  | nil => intro _; exact Nat.zero_le _
  | cons i xs ih =>
    intro h
    have h1 := ih (fun j hj => h j (by simp [hj]))
    have h2 := h i (by simp)
    have h3 := form_size (F i)
    simp only [List.map_cons, textB, ByteArray.size_append, Rows.uptoBulkAll]
    omega
theorem fd_of {f : Fd} {k0 k1 k2 : Int} {s : ByteArray} (w0 : (Lit.int .i64 k0).wf = true) (w1 : (Lit.int .i64 k1).wf = true) (w2 : (Lit.int .u64 k2).wf = true) (hs : s.size ≤ 1048576) (e : f = ⟨k0, k1, k2, s⟩) : FdOk f := by
  subst e
  exact ⟨(wf_i64 w0).1, (wf_i64 w0).2, (wf_i64 w1).1, (wf_i64 w1).2, (wf_u64 w2).1, (wf_u64 w2).2, by dsimp only; omega⟩
theorem add_off (b off i : Nat) : (⟨b, off, none⟩ : Addr).add i = ⟨b, off + i, none⟩ := by
  unfold Addr.add
  split
  · rename_i h; subst h; rfl
  · rfl

theorem arg_flds {H : Type} {enc : TypeId × Value → H} {W : World} {d : DataW H} {p : List MemPlace} {a : Option Addr} {len cap : Nat}
    (h : DataW.Trod enc Try.prog W 0 (fun _ => true) true 29 (.slice a len cap) d p) (hk : Rows.uptoBulk d ≤ 1048576) :
    ∃ l, Flds W W.heap.size a len l ∧ (∀ f ∈ l, FdOk f) ∧ (textB l).size ≤ 4611686018427387904 ∧ l.length ≤ 1048576 := by
  obtain ⟨fuel, hf⟩ := h
  rcases args.open_slice_fields Try.underlying29 Try.underlying35 (by kernel_rfl) Try.cells35' hf with ⟨hcs, hx⟩ | ⟨x, l, c, m, D, Pl, hcs, _, hl, hm, hmm, hx, hi⟩
  · simp [Value.cells] at hcs
    obtain ⟨rfl, rfl, rfl⟩ := hcs
    exact ⟨[], ⟨rfl, Nat.zero_le _, fun h => absurd h (by omega)⟩, fun f h => by simp at h, Nat.zero_le _, Nat.zero_le _⟩
  · simp [Value.cells] at hcs
    obtain ⟨rfl, rfl, rfl⟩ := hcs
    simp only [Prod.mk.injEq] at hx
    obtain ⟨rfl, _⟩ := hx
    simp only [if_true] at hmm
    subst hmm
    have hall : Rows.uptoBulkAll ((List.range len).map D) ≤ 1048576 := by
      simp only [Rows.uptoBulk] at hk; omega
    have key : ∀ i, i < len → ∃ f : Fd, FdOk f ∧ f.b.size + 5 ≤ Rows.uptoBulk (D i) ∧ W.cell? (x.add (i * 4)) = some (.int .i64 f.num) ∧ W.cell? (x.add (i * 4 + 1)) = some (.int .i64 f.kind) ∧ W.cell? (x.add (i * 4 + 2)) = some (.int .u64 f.u) ∧ W.cell? (x.add (i * 4 + 3)) = some (.string f.b) := by
      intro i hlt
      obtain ⟨ys, n', hD, _, hlen, hfs⟩ := hi i (by omega)
      obtain ⟨v0, y0, c0, g0, t0⟩ := hfs 0 _ rfl
      obtain ⟨v1, y1, c1, g1, t1⟩ := hfs 1 _ rfl
      obtain ⟨v2, y2, c2, g2, t2⟩ := hfs 2 _ rfl
      obtain ⟨v3, y3, c3, g3, t3⟩ := hfs 3 _ rfl
      obtain ⟨k0, e0, rfl, w0⟩ := DataW.trod_int Try.underlying3 t0
      obtain ⟨k1, e1, rfl, w1⟩ := DataW.trod_int Try.underlying3 t1
      obtain ⟨k2, e2, rfl, w2⟩ := DataW.trod_int Try.underlying22 t2
      obtain ⟨s, e3, rfl, _⟩ := DataW.trod_string Try.underlying9 t3
      simp only [List.cons.injEq, and_true] at e0 e1 e2 e3
      subst e0 e1 e2 e3
      have hys : ys = [(.lit (.int .i64 k0), []), (.lit (.int .i64 k1), []), (.lit (.int .u64 k2), []), (.lit (.string s.data.toList), [])] := by
        match ys, hlen with
        | [z0, z1, z2, z3], _ =>
          simp at g0 g1 g2 g3
          rw [g0, g1, g2, g3]
      have hbk : Rows.uptoBulk (D i) = s.size + 5 := by
        rw [hD, hys]
        simp only [List.map_cons, List.map_nil, Rows.uptoBulk, Rows.uptoBulkAll, Array.length_toList]
        have : s.data.size = s.size := rfl
        omega
      have hle : Rows.uptoBulk (D i) ≤ 1048576 := Nat.le_trans (bulks.part_le (List.mem_map.2 ⟨i, List.mem_range.2 hlt, rfl⟩)) hall
      exact ⟨⟨k0, k1, k2, s⟩, fd_of w0 w1 w2 (by omega) rfl, by dsimp only; omega, c0, c1, c2, c3⟩
    have : Inhabited Fd := ⟨⟨0, 0, 0, ⟨#[]⟩⟩⟩
    obtain ⟨F, hF⟩ := Deep.choose_lt key
    refine ⟨(List.range len).map F, ⟨by simp, by omega, fun hn => ?_⟩, fun f hm => ?_, ?_, ?_⟩
    · obtain ⟨b, off, spot⟩ := x
      have h0 := (hF 0 (by omega)).2.2.1
      have hspot : spot = none := by simpa [Addr.add] using World.cell?_spot h0
      subst hspot
      have hb : b < W.heap.size := by have := World.block_lt_of_cell? W _ h0; rw [add_off] at this; exact this
      refine ⟨b, off, rfl, hb, fun j f hj => ?_⟩
      have hj2 : j < len ∧ f = F j := by
        have h1 : j < ((List.range len).map F).length := by
          rcases Nat.lt_or_ge j ((List.range len).map F).length with h | h
          · exact h
          · rw [List.getElem?_eq_none h] at hj; cases hj
        simp at h1
        simp [h1] at hj
        exact ⟨h1, hj.symm⟩
      obtain ⟨hj2, rfl⟩ := hj2
      obtain ⟨_, _, q0, q1, q2, q3⟩ := hF j hj2
      rw [add_off] at q0 q1 q2 q3
      rw [Nat.mul_comm 4 j]
      refine ⟨q0, ?_, ?_, ?_⟩
      · rw [Nat.add_assoc]; exact q1
      · rw [Nat.add_assoc]; exact q2
      · rw [Nat.add_assoc]; exact q3
    · simp at hm
      obtain ⟨i, hi', rfl⟩ := hm
      exact (hF i hi').1
    · have := text_bulk D F (List.range len) (fun i hi' => (hF i (List.mem_range.1 hi')).2.1)
      omega
    · have := bulks.length_le ((List.range len).map D)
      simp at this ⊢
      omega
end Go.Proofs.Ytpnieegaemfffaa
