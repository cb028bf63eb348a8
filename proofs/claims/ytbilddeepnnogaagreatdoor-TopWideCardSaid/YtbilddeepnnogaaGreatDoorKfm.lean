import Derived.Test.YtbilddeepnnogaaGreatDoorJu
import Derived.Test.YtbilddeepnnogaaGreatDoorIam
set_option linter.unusedVariables false
set_option linter.unusedSimpArgs false
/- Runs: the works of a machine under way. -/
section
set_option linter.unusedVariables false
set_option maxRecDepth 100000
namespace Go.Proofs.YtbilddeepnnogaaGreatDoor
open Go.RowKit Go.Shelf Go.Maps

theorem OwnL.parts {α : Type} {ρ : Rep α} {e : TypeId} {w : World} {B : Nat} {Z : Nat → Prop} {v : Value} {l : List α} (h : OwnL ρ e w B Z v l) (hn : 0 < ρ.sz) (hl : 0 < l.length) : ∃ b c, v = .slice (some ⟨b, 0, none⟩) l.length c ∧ B ≤ b ∧ b < w.heap.size ∧ ∀ j x, l[j]? = some x → ∃ cs, ρ.R w Z cs x ∧ ∀ i, i < ρ.sz → w.cell? ⟨b, j * ρ.sz + i, none⟩ = cs[i]? := by
  obtain ⟨xs, hx, hr⟩ := h.own
  have hlt := h.lt
  have hx' := hx
  rcases hx.2 with ⟨h1, h2⟩ | ⟨g, cap, cur, h1, hg, hh, _⟩
  · omega
  · subst h1
    refine ⟨g, cap, rfl, hg, (hlt g rfl).2, fun j x hj => ?_⟩
    obtain ⟨cs, hR, q⟩ := hr j x hj
    refine ⟨cs, hR, fun i hi => ?_⟩
    have hj' : j < l.length := (List.getElem?_eq_some_iff.1 hj).1
    have e := hx'.cellAt (j * ρ.sz + i) (by
      have : (j + 1) * ρ.sz ≤ l.length * ρ.sz := Nat.mul_le_mul_right _ hj'
      rw [Nat.add_mul] at this
      omega)
    rw [q i hi] at e
    exact e
/-- A work: its block, its steps', its marks', its inputs', its place and its node. -/
structure Wd where
  (b S D a i : Nat)
  (o : Op1)
/-- The work in memory. -/
def WkR (W : World) (M Ar at_ x sz q : Nat) (w : World) (Z : Nat → Prop) (d : Wd) : Prop :=
  (Z d.b ∧ Z d.S ∧ Z d.D ∧ Z d.a) ∧ (∃ nm off c Ad cd cS cD, w.heap[d.b]? = some (.cells #[.string d.o.op, .string nm, .slice (some ⟨d.a, off, none⟩) d.o.m c, .string d.o.out, .slice none 0 0, .string d.o.out, .int .i64 6, .slice Ad 1 cd, .string d.o.out, .int .i64 (d.i * up8 (4 * x) : Nat), .int .i64 (4 * (x : Int)), .slice (some ⟨d.S, 0, none⟩) q cS, .slice (some ⟨d.D, 0, none⟩) q cD, .int .i64 q, .int .i64 0, .slice none 0 0] 170 (0, 0)) ∧ (∀ j, j < d.o.m → w.cell? ⟨d.a, off + j, none⟩ = some (.string ⟨#[120]⟩)) ∧ One W Ad x ∧ On (fun k => k ≠ M ∧ k ≠ Ar ∧ k ≠ at_) Ad) ∧
    (∀ j, j < q → w.cell? ⟨d.S, j * 3, none⟩ = some (.int .i64 d.i) ∧ w.cell? ⟨d.S, j * 3 + 1, none⟩ = some (.int .i64 (j * sz : Nat)) ∧ w.cell? ⟨d.S, j * 3 + 2, none⟩ = some (.int .i64 (min (x : Int) ((j * sz : Nat) + (sz : Int))))) ∧
    ∃ cs, w.heap[d.D]? = some (.cells cs 4 (0, 0)) ∧ cs.size = q ∧ ∀ j, j < q → cs[j]? = some (.bool false)
theorem WkR.keep {W : World} {M Ar at_ x sz q : Nat} {w w' : World} {Z Z' : Nat → Prop} {d : Wd} (h : WkR W M Ar at_ x sz q w Z d) (hk : Keeps Z w w') (hZ : ∀ k, Z k → Z' k) : WkR W M Ar at_ x sz q w' Z' d := by
  obtain ⟨⟨z1, z2, z3, z4⟩, ⟨nm, off, c, Ad, cd, cS, cD, h1, h2, h3, h4⟩, h5, cs, h6, h7, h8⟩ := h
  refine ⟨⟨hZ _ z1, hZ _ z2, hZ _ z3, hZ _ z4⟩, ⟨nm, off, c, Ad, cd, cS, cD, (hk _ z1).trans h1, fun j hj => (hk.cell (a := ⟨d.a, off + j, none⟩) z4).trans (h2 j hj), h3, h4⟩, fun j hj => ?_, cs, (hk _ z3).trans h6, h7, h8⟩
  obtain ⟨a1, a2, a3⟩ := h5 j hj
  exact ⟨(hk.cell (a := ⟨d.S, _, none⟩) z2).trans a1, (hk.cell (a := ⟨d.S, _, none⟩) z2).trans a2, (hk.cell (a := ⟨d.S, _, none⟩) z2).trans a3⟩
def repWk (W : World) (M Ar at_ x sz q : Nat) : Rep Wd where
  sz := 1
  R := fun w Z cs d => cs = [.pointer (some ⟨d.b, 0, none⟩)] ∧ WkR W M Ar at_ x sz q w Z d
  len := by rintro _ _ _ _ ⟨rfl, _⟩; rfl
  one := by
    rintro _ _ _ _ ⟨rfl, _⟩ u hu
    simp at hu
    subst hu
    rfl
  keep := by
    rintro _ _ _ _ _ _ ⟨rfl, h⟩ hk hZ
    exact ⟨rfl, h.keep hk hZ⟩
/-- All of one work lies ahead of all of another. -/
def Wd.lt (d e : Wd) : Prop := ∃ t, (d.b < t ∧ d.S < t ∧ d.D < t ∧ d.a < t) ∧ t ≤ e.b ∧ t ≤ e.S ∧ t ≤ e.D ∧ t ≤ e.a
structure Wd.ok (N n : Nat) (d : Wd) : Prop where
  lo : N ≤ d.b ∧ N ≤ d.S ∧ N ≤ d.D ∧ N ≤ d.a
  hi : d.b < n ∧ d.S < n ∧ d.D < n ∧ d.a < n
  ne : d.b ≠ d.S ∧ d.b ≠ d.D ∧ d.b ≠ d.a ∧ d.S ≠ d.D ∧ d.a ≠ d.D
/-- The works so far. -/
structure WlOk (N n : Nat) (l : List Op1) (wl : List Wd) : Prop where
  at_ : ∀ (i : Nat) (d : Wd), wl[i]? = some d → d.i = i ∧ l[i]? = some d.o ∧ d.ok N n
  lt : ∀ (i j : Nat) (d e : Wd), i < j → wl[i]? = some d → wl[j]? = some e → d.lt e
theorem wlOk_nil (N n : Nat) (l : List Op1) : WlOk N n l [] := ⟨fun i d h => by simp at h, fun i j d e _ h => by simp at h⟩
theorem WlOk.add {N n n' : Nat} {l : List Op1} {wl : List Wd} (h : WlOk N n l wl) (hn : n ≤ n') (d : Wd) (h1 : d.i = wl.length) (h2 : l[wl.length]? = some d.o) (h3 : d.ok n n') (hN : N ≤ n) : WlOk N n' l (wl ++ [d]) := by
  have hd : d.ok N n' := ⟨⟨Nat.le_trans hN h3.lo.1, Nat.le_trans hN h3.lo.2.1, Nat.le_trans hN h3.lo.2.2.1, Nat.le_trans hN h3.lo.2.2.2⟩, h3.hi, h3.ne⟩
  have hup : ∀ (i : Nat) (e : Wd), wl[i]? = some e → e.i = i ∧ l[i]? = some e.o ∧ e.ok N n' := fun i e he => by
    obtain ⟨a, b, c⟩ := h.at_ i e he
    have := c.hi
    exact ⟨a, b, c.lo, ⟨by omega, by omega, by omega, by omega⟩, c.ne⟩
  constructor
  · intro i e he
    rcases Nat.lt_or_ge i wl.length with hi | hi
    · rw [List.getElem?_append_left hi] at he
      exact hup i e he
    · rw [List.getElem?_append_right hi] at he
      obtain ⟨k, hk⟩ : ∃ k, k = i - wl.length := ⟨_, rfl⟩
      rw [← hk] at he
      cases k with
      | zero =>
        obtain rfl : d = e := by simpa using he
        obtain rfl : i = wl.length := by omega
        exact ⟨h1, h2, hd⟩
      | succ k => simp at he
  · intro i j e f hij he hf
    have hjl := (List.getElem?_eq_some_iff.1 hf).1
    simp only [List.length_append, List.length_singleton] at hjl
    rw [List.getElem?_append_left (by omega)] at he
    rcases Nat.lt_or_ge j wl.length with hj | hj
    · rw [List.getElem?_append_left hj] at hf
      exact h.lt i j e f hij he hf
    · obtain rfl : j = wl.length := by omega
      obtain rfl : d = f := by simpa using hf
      exact ⟨n, (h.at_ i e he).2.2.hi, h3.lo⟩
/-- The machine, out of its works. -/
theorem new_mc {w10 wr : World} {base M Ar bG bA m x sz q : Nat} {l : List Op1} {ds : List Int} {wl : List Wd} {Av : Option Addr} {cv c3 : Nat} {A3 : Option Addr} {g1 g2 d1 d2 : Nat} {f fa : ByteArray → Option Value} {cs : Array Value}
    (hok : FlatL l) (hgl : Gl wr) (h10 : w10.heap.size ≤ wr.heap.size) (hx1 : 1 ≤ x) (hq : q ≤ 30)
    (hrow : wr.heap[M]? = some (.cells #[.slice Av l.length cv, .map (some bG), .map (some bA), .slice A3 l.length c3, .slice (some ⟨Ar, 0, none⟩) m m, .int .i64 0] 162 (0, 0)))
    (hv : VlX wr (fun k => k < w10.heap.size ∧ k ≠ M ∧ k ≠ Ar) Av (l.map (·.out)) x)
    (hg : MapIs wr bG f 1) (hgx : f ⟨#[120]⟩ = some (.agg #[.int .i64 6, .slice (some ⟨g1, 0, none⟩) 1 d1, .slice (some ⟨g2, 0, none⟩) x d2])) (hT : TnOk wr (some ⟨g1, 0, none⟩) (some ⟨g2, 0, none⟩) x ds) (hg1 : g1 < w10.heap.size ∧ g1 ≠ M ∧ g1 ≠ Ar) (hg2 : g2 < w10.heap.size ∧ g2 ≠ M ∧ g2 ≠ Ar)
    (ha : MapIs wr bA fa l.length) (hax : fa ⟨#[120]⟩ = none) (hal : ∀ (i : Nat) (o : Op1), l[i]? = some o → fa o.out = some (.int .i64 i))
    (har : wr.heap[Ar]? = some (.cells cs 5 (0, 0))) (hcs : cs.size = m) (hm : m = l.length * up8 (4 * x)) (hm2 : m ≤ 1000)
    (hn : (M < w10.heap.size ∧ Ar < w10.heap.size ∧ bG < w10.heap.size ∧ bA < w10.heap.size) ∧ (M ≠ Ar ∧ bG ≠ M ∧ bG ≠ Ar ∧ bA ≠ M ∧ bA ≠ Ar) ∧ 5 ≤ base ∧ base ≤ M ∧ base ≤ Ar)
    (hz : OZ (repWk w10 M Ar bA x sz q) 168 wr w10.heap.size (.slice A3 l.length c3) wl) (hwl : wl.length = l.length) (hw : WlOk w10.heap.size wr.heap.size l wl) (hone : ∀ Ad, One w10 Ad x → On (fun k => k ≠ M ∧ k ≠ Ar ∧ k ≠ bA) Ad → One wr Ad x) (hoz : ∀ b off, One w10 (some ⟨b, off, none⟩) x → b < w10.heap.size) :
    ∃ L, Lay.M L = M ∧ Lay.base L = base ∧ L.top ≤ wr.heap.size ∧ Mc wr L l x sz q ds (fun _ _ => false) (fun _ _ => false) := by
  obtain ⟨⟨n1, n2, n3, n4⟩, ⟨n5, n6, n7, n8, n9⟩, nb1, nb2, nb3⟩ := hn
  have hp := hok.pos
  have hmo := hok.most
  obtain ⟨Z, hO, hZ⟩ := hz
  obtain ⟨Wb, c', e3, b1, b2, hel⟩ := hO.parts (show 0 < 1 by omega) (by omega)
  simp only [Value.slice.injEq] at e3
  obtain ⟨rfl, -, rfl⟩ := e3
  obtain ⟨d0, hd0⟩ : ∃ d, wl[0]? = some d := ⟨_, List.getElem?_eq_getElem (by omega)⟩
  have get : ∀ i, i < l.length → ∃ d, wl[i]? = some d ∧ (wl[i]?).getD d0 = d := fun i hi => ⟨_, List.getElem?_eq_getElem (by omega), by rw [List.getElem?_eq_getElem (by omega)]; rfl⟩
  have sep : ∀ (i j : Nat) (d e : Wd), i ≠ j → wl[i]? = some d → wl[j]? = some e → (d.b ≠ e.b ∧ d.b ≠ e.D ∧ d.b ≠ e.S ∧ d.b ≠ e.a) ∧ (d.S ≠ e.b ∧ d.S ≠ e.D) ∧ (d.a ≠ e.b ∧ d.a ≠ e.D) ∧ d.D ≠ e.D ∧ d.D ≠ e.b := fun i j d e hij hd he => by
    rcases Nat.lt_or_ge i j with h | h
    · obtain ⟨t, ⟨a1, a2, a3, a4⟩, a5, a6, a7, a8⟩ := hw.lt i j d e h hd he
      exact ⟨⟨by omega, by omega, by omega, by omega⟩, ⟨by omega, by omega⟩, ⟨by omega, by omega⟩, by omega, by omega⟩
    · obtain ⟨t, ⟨a1, a2, a3, a4⟩, a5, a6, a7, a8⟩ := hw.lt j i e d (by omega) he hd
      exact ⟨⟨by omega, by omega, by omega, by omega⟩, ⟨by omega, by omega⟩, ⟨by omega, by omega⟩, by omega, by omega⟩
  obtain ⟨wk, hwk⟩ : ∃ wk : Nat → Nat, ∀ (i : Nat) (d : Wd), wl[i]? = some d → wk i = d.b := ⟨fun i => ((wl[i]?).getD d0).b, fun i d h => by show ((wl[i]?).getD d0).b = _; rw [h]; rfl⟩
  obtain ⟨S, hS⟩ : ∃ wk : Nat → Nat, ∀ (i : Nat) (d : Wd), wl[i]? = some d → wk i = d.S := ⟨fun i => ((wl[i]?).getD d0).S, fun i d h => by show ((wl[i]?).getD d0).S = _; rw [h]; rfl⟩
  obtain ⟨Dn, hDn⟩ : ∃ wk : Nat → Nat, ∀ (i : Nat) (d : Wd), wl[i]? = some d → wk i = d.D := ⟨fun i => ((wl[i]?).getD d0).D, fun i d h => by show ((wl[i]?).getD d0).D = _; rw [h]; rfl⟩
  have stc : ∀ k, k < wr.heap.size → k ≠ M → k ≠ Ar → (∀ (i : Nat) (d : Wd), i < l.length → wl[i]? = some d → k ≠ d.b ∧ k ≠ d.D) → Stc wr.heap.size M Ar l.length wk Dn k := fun k k1 k2 k3 k4 => ⟨⟨k2, k3, fun i hi => by
    obtain ⟨d, hd, -⟩ := get i hi
    have := k4 i d hi hd
    rw [hwk i d hd, hDn i d hd]
    exact this⟩, k1⟩
  have low : ∀ k, k < w10.heap.size → k ≠ M → k ≠ Ar → Stc wr.heap.size M Ar l.length wk Dn k := fun k k1 k2 k3 => stc k (by omega) k2 k3 (fun i d hi hd => by
    have := (hw.at_ i d hd).2.2.lo
    exact ⟨by omega, by omega⟩)
  have hel2 : ∀ (i : Nat) (d : Wd), wl[i]? = some d → WkR w10 M Ar bA x sz q wr Z d ∧ wr.cell? ⟨Wb, i, none⟩ = some (.pointer (some ⟨d.b, 0, none⟩)) := fun i d hd => by
    obtain ⟨cs, ⟨rfl, h1⟩, h2⟩ := hel i d hd
    have := h2 0 (show 0 < 1 by omega)
    exact ⟨h1, by simpa [repWk] using this⟩
  have wbz : ∀ k, Z k → Wb ≠ k := fun k hk e => (hZ k hk).2.2 (by rw [← e]; rfl)
  have hap : Apart base wr.heap.size M Ar l.length wk Dn := by
    refine ⟨by omega, ⟨nb1, nb2, nb3, fun i hi => ?_⟩, n5, fun i hi => ?_, fun i hi => ?_, fun i j hi hj hij => ?_, fun i j hi hj hij => ?_, fun i j hi hj => ?_⟩
    all_goals
      obtain ⟨d, hd, -⟩ := get i hi
      have hdo := (hw.at_ i d hd).2.2
      have q1 := hdo.lo
      have q2 := hdo.ne
      first | rw [hwk i d hd, hDn i d hd] | rw [hwk i d hd] | rw [hDn i d hd] | skip
    · exact ⟨by omega, by omega⟩
    · exact ⟨by omega, by omega⟩
    · exact ⟨by omega, by omega⟩
    · obtain ⟨e, he, -⟩ := get j hj
      have := sep i j d e hij hd he
      rw [hwk j e he]
      omega
    · obtain ⟨e, he, -⟩ := get j hj
      have := sep i j d e hij hd he
      rw [hDn j e he]
      omega
    · obtain ⟨e, he, -⟩ := get j hj
      rw [hDn j e he]
      by_cases hij : i = j
      · subst hij
        rw [hd] at he
        obtain rfl : d = e := by simpa using he
        omega
      · have := sep i j d e hij hd he
        omega
  refine ⟨⟨base, wr.heap.size, M, Wb, c3, Ar, m, bA, bG, wk, S, Dn⟩, rfl, rfl, Nat.le_refl _, ?_⟩
  refine ⟨hok, hgl, ⟨Av, cv, m, 0, hrow, ?_, Nat.le_refl _, by omega, ?_⟩, ?_, ?_, ?_, ⟨f, _, _, _, _, hg, hgx, hT, ?_, ?_⟩, ⟨fa, ha, hax, hal⟩, ?_, ?_, ⟨cs, har, hcs⟩, ?_, hap, ?_⟩
  · obtain ⟨b, off, e, v1, v2, v3⟩ := hv
    refine ⟨b, off, e, v1, low b v2.1 v2.2.1 v2.2.2, fun j s hj => ?_⟩
    obtain ⟨bd, od, c, u0, u1, u2, u3, u4, u5⟩ := v3 j s hj
    exact ⟨bd, od, c, u0, u1, u2, u3, low bd u4.1 u4.2.1 u4.2.2, u5⟩
  · rw [openN_all]
    have : l.length * q ≤ 5 * 30 := Nat.mul_le_mul hmo hq
    have h2 : ((l.length * q : Nat) : Int) ≤ 150 := by omega
    omega
  · intro i hi
    obtain ⟨d, hd, -⟩ := get i hi
    show wr.cell? ⟨Wb, i, none⟩ = some (.pointer (some ⟨wk i, 0, none⟩))
    rw [hwk i d hd]
    exact (hel2 i d hd).2
  · refine stc Wb b2 (by omega) (by omega) (fun i d hi hd => ?_)
    obtain ⟨⟨z1, z2, z3, z4⟩, -⟩ := (hel2 i d hd).1
    exact ⟨wbz _ z1, wbz _ z3⟩
  · intro i o ho
    have hi : i < l.length := (List.getElem?_eq_some_iff.1 ho).1
    obtain ⟨d, hd, -⟩ := get i hi
    obtain ⟨e1, e2, e3⟩ := hw.at_ i d hd
    obtain ⟨⟨z1, z2, z3, z4⟩, ⟨nm, off, c, Ad, cd, cS, cD, h1, h2, h3, h4⟩, h5, cs', h6, h7, h8⟩ := (hel2 i d hd).1
    rw [e1] at h1 h5
    rw [ho] at e2
    obtain rfl : o = d.o := by simpa using e2
    show WkZ (Stc wr.heap.size M Ar l.length wk Dn) wr (wk i) (S i) (Dn i) i d.o x sz q (fun _ => false)
    rw [hwk i d hd, hS i d hd, hDn i d hd]
    have q1 := e3.lo
    have q2 := e3.hi
    have q3 := e3.ne
    have sS : Stc wr.heap.size M Ar l.length wk Dn d.S := stc _ (by omega) (by omega) (by omega) (fun j e hj he => by
      by_cases hij : i = j
      · subst hij
        rw [hd] at he
        obtain rfl : d = e := by simpa using he
        exact ⟨by omega, by omega⟩
      · exact (sep i j d e hij hd he).2.1)
    have sa : Stc wr.heap.size M Ar l.length wk Dn d.a := stc _ (by omega) (by omega) (by omega) (fun j e hj he => by
      by_cases hij : i = j
      · subst hij
        rw [hd] at he
        obtain rfl : d = e := by simpa using he
        exact ⟨by omega, by omega⟩
      · exact (sep i j d e hij hd he).2.2.1)
    refine ⟨⟨nm, _, c, Ad, cd, cS, cD, ?_, ⟨d.a, off, rfl, by omega, h2⟩, ?_, hone Ad h3 h4, ?_⟩, sS, h5, cs', h6, h7, h8⟩
    · rw [undone_all]
      exact h1
    · intro b o2 e
      cases e
      exact sa
    · intro b o2 e
      subst e
      have := h4 b o2 rfl
      exact low b (hoz b o2 h3) this.1 this.2.1
  · intro b off e
    cases e
    exact low _ hg1.1 hg1.2.1 hg1.2.2
  · intro b off e
    cases e
    exact low _ hg2.1 hg2.2.1 hg2.2.2
  · exact low _ n3 n6 n7
  · exact low _ n4 n8 n9
  · exact ⟨Nat.le_of_eq hm.symm, hm2⟩
  · intro i o j ho hj hB
    cases hB
theorem cuts (x sz : Nat) (h1 : 1 ≤ sz) : ∃ q, x ≤ q * sz ∧ q ≤ x ∧ ∀ j, j < q → j * sz < x := by
  have : ∀ n, x ≤ n * sz → ∃ q, x ≤ q * sz ∧ q ≤ n ∧ ∀ j, j < q → j * sz < x := fun n => by
    induction n with
    | zero => exact fun h => ⟨0, h, Nat.le_refl _, fun j hj => by omega⟩
    | succ n ih =>
      intro h
      rcases Nat.lt_or_ge (n * sz) x with h2 | h2
      · exact ⟨n + 1, h, Nat.le_refl _, fun j hj => Nat.lt_of_le_of_lt (Nat.mul_le_mul_right sz (show j ≤ n by omega)) h2⟩
      · obtain ⟨q, a, b, c⟩ := ih h2
        exact ⟨q, a, by omega, c⟩
  exact this x (Nat.le_mul_of_pos_right x h1)
theorem cuts_one {x sz q q' : Nat} (h1 : x ≤ q * sz) (h2 : ∀ j, j < q → j * sz < x) (h3 : x ≤ q' * sz) (h4 : ∀ j, j < q' → j * sz < x) : q = q' := by
  rcases Nat.lt_or_ge q q' with h | h
  · have := h4 q h
    omega
  · rcases Nat.lt_or_ge q' q with h5 | h5
    · have := h2 q' h5
      omega
    · omega
/-- New at its nodes. -/
structure NwSt (w3 w10 wr : World) (M Ar bA bG m x sz q : Nat) (l : List Op1) (Av : Option Addr) (cv k : Nat) (v3 : Value) (wl : List Wd) : Prop where
  base : Below w3.heap.size w10 wr
  keep : ∀ b, b < w10.heap.size → b ≠ M → b ≠ bA → wr.heap[b]? = w10.heap[b]?
  row : wr.heap[M]? = some (.cells #[.slice Av l.length cv, .map (some bG), .map (some bA), v3, .slice (some ⟨Ar, 0, none⟩) m m, .int .i64 0] 162 (0, 0))
  len : wl.length = k
  own : OZ (repWk w10 M Ar bA x sz q) 168 wr w10.heap.size v3 wl
  wlo : WlOk w10.heap.size wr.heap.size l wl
  at_ : ∃ fa, MapIs wr bA fa k ∧ fa ⟨#[120]⟩ = none ∧ ∀ (i : Nat) (o : Op1), l[i]? = some o → fa o.out = if i < k then some (.int .i64 i) else none
theorem newXd {F : World → Prop} {w : World} {a : Obj} (h : ∀ w', Fx w w' [some a] → F w') : F (w.alloc a).drew := h _ (fx1 w a).drew
end Go.Proofs.YtbilddeepnnogaaGreatDoor
end
/- Runs: one work more. -/
section
set_option linter.unusedVariables false
set_option maxRecDepth 100000
namespace Go.Proofs.YtbilddeepnnogaaGreatDoor
open Go.RowKit Go.Shelf Go.Maps

theorem newSet2 {F : World → Prop} {w : World} {b i j : Nat} {u v : Value} {o : Obj} {cs : Array Value} {t : TypeId} (hr : w.heap[b]? = some (.cells cs t (0, 0))) (h : ∀ W, W.heap[b]? = some (.cells ((cs.setIfInBounds i u).setIfInBounds j v) t (0, 0)) → W.heap[w.heap.size]? = some o → (∀ k, k ≠ b → k < w.heap.size → W.heap[k]? = w.heap[k]?) → W.heap.size = w.heap.size + 1 → (∀ N a, Below N a w → N ≤ b → N ≤ w.heap.size → Below N a W) → F W) : F ((((w.setCell ⟨b, i, none⟩ u).setCell ⟨b, j, none⟩ v).alloc o).drew) := by
  have h1 := heap_setCell_same w b i cs t u hr
  have h2 := heap_setCell_same _ b j _ t v h1
  have hb : b < w.heap.size := (Array.getElem?_eq_some_iff.1 hr).1
  have hz : ((w.setCell ⟨b, i, none⟩ u).setCell ⟨b, j, none⟩ v).heap.size = w.heap.size := by simp [World.setCell]
  have ho : ∀ k, k < w.heap.size → ((((w.setCell ⟨b, i, none⟩ u).setCell ⟨b, j, none⟩ v).alloc o).drew).heap[k]? = ((w.setCell ⟨b, i, none⟩ u).setCell ⟨b, j, none⟩ v).heap[k]? := fun k hk => Below.heap_alloc _ _ _ (by rw [hz]; exact hk)
  refine h _ ((ho b hb).trans h2) ?_ (fun k hk hlt => (ho k hlt).trans ((Below.heap_setCell _ _ _ _ hk).trans (Below.heap_setCell _ _ _ _ hk))) ?_ (fun N a hB h1 h2 => (((hB.setCell h1 _).setCell h1 _).alloc (by rw [hz]; exact h2) _).drew)
  · have := heap_alloc_new ((w.setCell ⟨b, i, none⟩ u).setCell ⟨b, j, none⟩ v) o
    rw [hz] at this
    exact this
  · show (((w.setCell ⟨b, i, none⟩ u).setCell ⟨b, j, none⟩ v).alloc o).heap.size = w.heap.size + 1
    simp [World.setCell]
section
variable {w3 w10 wr w19 w20 w21 : World} {M Ar bA bG m x sz q k cv c3 : Nat} {l : List Op1} {Av A3 : Option Addr} {wl : List Wd} {o : Op1}
theorem NwSt.mid (hs : NwSt w3 w10 wr M Ar bA bG m x sz q l Av cv k (.slice A3 k c3) wl) (hlt : bA < w10.heap.size) (hMA : M ≠ bA) (h19 : Since wr w19) (hg20 : w19.drew.grownBy w20 (some bA)) :
    (∀ b, b < wr.heap.size → b ≠ bA → w20.heap[b]? = wr.heap[b]?) ∧ (∀ b, b < w19.heap.size → b ≠ bA → w20.heap[b]? = w19.heap[b]?) ∧ wr.heap.size ≤ w19.heap.size ∧ w19.heap.size ≤ w20.heap.size ∧ w10.heap.size ≤ wr.heap.size ∧ M < wr.heap.size ∧
    w20.heap[M]? = some (.cells #[.slice Av l.length cv, .map (some bG), .map (some bA), .slice A3 k c3, .slice (some ⟨Ar, 0, none⟩) m m, .int .i64 0] 162 (0, 0)) ∧
    OZ (repWk w10 M Ar bA x sz q) 168 w20 w10.heap.size (.slice A3 k c3) wl := by
  have h1 : ∀ b, b < w19.heap.size → b ≠ bA → w20.heap[b]? = w19.heap[b]? := fun b hb hn => hg20.block b hb (fun e => hn (by injection e))
  have h2 : w19.heap.size ≤ w20.heap.size := hg20.size
  have h3 := h19.size
  have h4 := hs.base.size
  have h5 : ∀ b, b < wr.heap.size → b ≠ bA → w20.heap[b]? = wr.heap[b]? := fun b hb hn => (h1 b (by omega) hn).trans (h19.block b hb)
  have hM := (Array.getElem?_eq_some_iff.1 hs.row).1
  exact ⟨h5, h1, h3, h2, h4, hM, (h5 M hM hMA).trans hs.row, hs.own.keep (fun k a b => h5 k b (by omega)) (by omega)⟩
theorem NwSt.step {fa : ByteArray → Option Value} (hs : NwSt w3 w10 wr M Ar bA bG m x sz q l Av cv k (.slice A3 k c3) wl) (hok : FlatL l) (ho : l[k]? = some o) (hlt : bA < w10.heap.size) (hMlt : M < w10.heap.size) (hMA : M ≠ bA) (hbs : w3.heap.size ≤ M ∧ w3.heap.size ≤ bA ∧ w3.heap.size ≤ w10.heap.size) (h19 : Since wr w19) (hg20 : w19.drew.grownBy w20 (some bA))
    (hfx : fa ⟨#[120]⟩ = none) (hfo : ∀ (i : Nat) (o : Op1), l[i]? = some o → fa o.out = if i < k then some (.int .i64 i) else none) (hm20 : MapIs w20 bA (upd fa o.out (.int .i64 k)) (k + 1))
    (d : Wd) (hdi : d.i = k) (hdo : d.o = o) (hdok : d.ok wr.heap.size w19.heap.size) {v' : Value} (hz21 : OZ (repWk w10 M Ar bA x sz q) 168 w21 w10.heap.size v' (wl ++ [d])) (hg21 : w20.grownBy w21 (Value.slice A3 k c3).ownBlock) :
    NwSt w3 w10 (w21.setCell ⟨M, 3, none⟩ v') M Ar bA bG m x sz q l Av cv (k + 1) v' (wl ++ [d]) := by
  obtain ⟨n1, n2, n3, n4, n5, n6, n7, n8⟩ := hs.mid hlt hMA h19 hg20
  have n9 : w20.heap.size ≤ w21.heap.size := hg21.size
  have hown : ∀ b, (Value.slice A3 k c3).ownBlock = some b → w10.heap.size ≤ b := fun b e => (hs.own.row_lt b e).1
  have hz : (w21.setCell ⟨M, 3, none⟩ v').heap.size = w21.heap.size := by simp [World.setCell]
  have far : ∀ b, b < w10.heap.size → b ≠ M → b ≠ bA → (w21.setCell ⟨M, 3, none⟩ v').heap[b]? = w10.heap[b]? := fun b h1 h2 h3 => (Below.heap_setCell _ _ _ _ h2).trans ((hg21.block b (by omega) (fun e => by have := hown b e.symm; omega)).trans ((n1 b (by omega) h3).trans (hs.keep b h1 h2 h3)))
  have hMr : w21.heap[M]? = _ := (hg21.block M (by omega) (fun e => by have := hown M e.symm; omega)).trans n7
  refine ⟨?_, far, ?_, by simp [hs.len], ?_, ?_, upd fa o.out (.int .i64 k), ?_, ?_, ?_⟩
  · have b1 : Below w3.heap.size w10 w19 := hs.base.trans (Below.mono h19 (by omega))
    have b2 : Below w3.heap.size w10 w20 := b1.drew.grown hg20 (by show w3.heap.size ≤ w19.heap.size; omega) (fun k e => by cases e; omega)
    exact (b2.grown hg21 (by omega) (fun b e => by have := hown b e; omega)).setCell hbs.1 _
  · simpa using heap_setCell_same w21 M 3 _ 162 v' hMr
  · exact hz21.keep (fun b h1 h2 => Below.heap_setCell _ _ _ _ (by dsimp only; omega)) (by omega)
  · rw [hz]
    exact hs.wlo.add (by omega) d (by rw [hs.len]; exact hdi) (by rw [hs.len, hdo]; exact ho) ⟨hdok.lo, ⟨by have := hdok.hi; omega, by have := hdok.hi; omega, by have := hdok.hi; omega, by have := hdok.hi; omega⟩, hdok.ne⟩ (by omega)
  · exact hm20.keep ((Below.heap_setCell _ _ _ _ (fun e => hMA e.symm)).trans (hg21.block bA (by omega) (fun e => by have := hown bA e.symm; omega)))
  · have hne : (⟨#[120]⟩ : ByteArray) ≠ o.out := fun e => (hok.outs o (List.mem_of_getElem? ho)).2 (by rw [← e]; kernel_rfl)
    rw [upd, if_neg hne]
    exact hfx
  · intro i o' hi
    rw [upd]
    by_cases e : o'.out = o.out
    · obtain rfl := hok.apart i k o' o hi ho e
      rw [if_pos e, if_pos (by omega)]
    · have hik : i ≠ k := by
        rintro rfl
        rw [hi] at ho
        cases ho
        exact e rfl
      rw [if_neg e, hfo i o' hi]
      by_cases h : i < k
      · rw [if_pos h, if_pos (by omega)]
      · rw [if_neg h, if_neg (by omega)]
/-- The work in memory, made. -/
theorem wkR_made {nm : ByteArray} {b S D a off c cd cS : Nat} {Ad : Option Addr} (hrow : w20.heap[b]? = some (.cells #[.string o.op, .string nm, .slice (some ⟨a, off, none⟩) o.m c, .string o.out, .slice none 0 0, .string o.out, .int .i64 6, .slice Ad 1 cd, .string o.out, .int .i64 (k * up8 (4 * x) : Nat), .int .i64 (4 * (x : Int)), .slice (some ⟨S, 0, none⟩) q cS, .slice (some ⟨D, 0, none⟩) q q, .int .i64 q, .int .i64 0, .slice none 0 0] 170 (0, 0)))
    (hin : ∀ j, j < o.m → w20.cell? ⟨a, off + j, none⟩ = some (.string ⟨#[120]⟩)) (hone : One w10 Ad x) (hon : On (fun k => k ≠ M ∧ k ≠ Ar ∧ k ≠ bA) Ad)
    (hst : ∀ j cs, (stepsR k x sz q)[j]? = some cs → ∀ i, i < 3 → w20.cell? ⟨S, j * 3 + i, none⟩ = cs[i]?) (hD : w20.heap[D]? = some (.cells (madeCells #[.bool false] q) 4 (0, 0))) :
    WkR w10 M Ar bA x sz q w20 (fun z => z = b ∨ z = S ∨ z = D ∨ z = a) ⟨b, S, D, a, k, o⟩ := by
  refine ⟨⟨.inl rfl, .inr (.inl rfl), .inr (.inr (.inl rfl)), .inr (.inr (.inr rfl))⟩, ⟨nm, off, c, Ad, cd, cS, q, hrow, hin, hone, hon⟩, fun j hj => ?_, _, hD, size_madeCells _ _, fun j hj => ?_⟩
  · have h := hst j _ (stepsR_get hj)
    exact ⟨h 0 (by omega), h 1 (by omega), h 2 (by omega)⟩
  · rw [← Array.getElem?_toList, toList_madeCells_one, List.getElem?_replicate, if_pos hj]
end
theorem vlX_of {w : World} {Z : Nat → Prop} {v : Value} {ns : List ByteArray} {x : Int} (h : IsSlc repVl w Z v (ns.map (fun s => ⟨s, 6, [x]⟩))) (hl : 0 < ns.length) (hZ : ∀ k, Z k → k < w.heap.size) : ∃ A c, v = .slice A ns.length c ∧ VlX w Z A ns x := by
  obtain ⟨A, n, c, rfl, hs, _⟩ := h
  have hn := hs.len
  simp at hn
  subst hn
  refine ⟨A, c, rfl, ?_⟩
  obtain ⟨b, off, rfl, hb, hc⟩ := hs.at_ hl
  refine ⟨b, off, rfl, hZ b hb, hb, fun j s hj => ?_⟩
  obtain ⟨cs, ⟨d, rfl, hd⟩, hi⟩ := hc j _ (by rw [List.getElem?_map, hj]; rfl)
  obtain ⟨Ad, m, cd, rfl, hsd, h0⟩ := hd
  have hm := hsd.len
  simp at hm
  subst hm
  obtain ⟨bd, od, rfl, hbd, hcd⟩ := hsd.at_ Nat.one_pos
  obtain ⟨cs', hcs, h3⟩ := hcd 0 x rfl
  have h4 := h3 0 (by decide)
  rw [show cs' = [.int .i64 x] from hcs] at h4
  exact ⟨bd, od, cd, by have := hi 0 (by decide); simpa [repVl] using this, by have := hi 1 (by decide); simpa [repVl] using this, by have := hi 2 (by decide); simpa [repVl] using this, hZ bd hbd, hbd, by simpa [repInt] using h4⟩
end Go.Proofs.YtbilddeepnnogaaGreatDoor
end
