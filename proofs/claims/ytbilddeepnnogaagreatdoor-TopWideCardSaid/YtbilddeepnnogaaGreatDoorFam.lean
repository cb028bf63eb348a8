import Derived.Test.YtbilddeepnnogaaGreatDoorEbm
import Derived.Deep.RegionHeld3
set_option linter.unusedVariables false
set_option linter.unusedSimpArgs false
/- Copies: values. -/
section
set_option linter.unusedVariables false
set_option maxRecDepth 100000
namespace Go.Proofs.YtbilddeepnnogaaGreatDoor
open Go.RowKit Go.Shelf

/-- The same, all of it in blocks of a set. -/
def VlX (w : World) (Z : Nat → Prop) (A : Option Addr) (ns : List ByteArray) (x : Int) : Prop := ∃ b off, A = some ⟨b, off, none⟩ ∧ b < w.heap.size ∧ Z b ∧ ∀ j s, ns[j]? = some s → ∃ bd od c, w.cell? ⟨b, off + j * 3, none⟩ = some (.string s) ∧ w.cell? ⟨b, off + j * 3 + 1, none⟩ = some (.int .i64 6) ∧ w.cell? ⟨b, off + j * 3 + 2, none⟩ = some (.slice (some ⟨bd, od, none⟩) 1 c) ∧ bd < w.heap.size ∧ Z bd ∧ w.cell? ⟨bd, od, none⟩ = some (.int .i64 x)
theorem VlX.vlAt {w : World} {Z : Nat → Prop} {A : Option Addr} {ns : List ByteArray} {x : Int} (h : VlX w Z A ns x) : VlAt w A ns x := by
  obtain ⟨b, off, e, h1, _, h2⟩ := h
  refine ⟨b, off, e, h1, fun j s hj => ?_⟩
  obtain ⟨bd, od, c, q0, q1, q2, q3, _, q4⟩ := h2 j s hj
  exact ⟨_, c, q0, q1, q2, bd, od, rfl, q3, q4⟩
theorem VlAt.vlX {w : World} {Z : Nat → Prop} {A : Option Addr} {ns : List ByteArray} {x : Int} (h : VlAt w A ns x) (hZ : ∀ k, k < w.heap.size → Z k) : VlX w Z A ns x := by
  obtain ⟨b, off, e, h1, h2⟩ := h
  refine ⟨b, off, e, h1, hZ b h1, fun j s hj => ?_⟩
  obtain ⟨Ad, c, q0, q1, q2, bd, od, rfl, q3, q4⟩ := h2 j s hj
  exact ⟨bd, od, c, q0, q1, q2, q3, hZ bd q3, q4⟩
theorem VlX.keep {w w' : World} {Z : Nat → Prop} {A : Option Addr} {ns : List ByteArray} {x : Int} (h : VlX w Z A ns x) (hk : ∀ k, k < w.heap.size → Z k → w'.heap[k]? = w.heap[k]?) (hs : w.heap.size ≤ w'.heap.size) : VlX w' Z A ns x := by
  obtain ⟨b, off, e, h1, h0, h2⟩ := h
  have ce : ∀ (a : Addr), a.block < w.heap.size → Z a.block → w'.cell? a = w.cell? a := fun a h1 h2 => World.cell?_of_block (hk a.block h1 h2)
  refine ⟨b, off, e, Nat.lt_of_lt_of_le h1 hs, h0, fun j s hj => ?_⟩
  obtain ⟨bd, od, c, q0, q1, q2, q3, q4, q5⟩ := h2 j s hj
  exact ⟨bd, od, c, (ce ⟨b, _, none⟩ h1 h0).trans q0, (ce ⟨b, _, none⟩ h1 h0).trans q1, (ce ⟨b, _, none⟩ h1 h0).trans q2, Nat.lt_of_lt_of_le q3 hs, q4, (ce ⟨bd, _, none⟩ q3 q4).trans q5⟩
theorem VlX.below {w w' : World} {Z : Nat → Prop} {A : Option Addr} {ns : List ByteArray} {x : Int} (h : VlX w Z A ns x) (hb : Below w.heap.size w w') : VlX w' Z A ns x := h.keep (fun k hk _ => hb.block k hk) hb.size
theorem VlX.isSlc {w : World} {Z : Nat → Prop} {A : Option Addr} {ns : List ByteArray} {x : Int} (h : VlX w Z A ns x) (hn : ns.length ≤ 1000) (h0 : 0 < ns.length) (c : Nat) : IsSlc repVl w (fun k => k < w.heap.size ∧ Z k) (.slice A ns.length c) (ns.map (fun s => ⟨s, 6, [x]⟩)) := by
  obtain ⟨b, off, rfl, hb, hbH, hc⟩ := h
  refine ⟨_, _, _, rfl, ⟨by simp, by unfold maxLen; omega, fun _ => ⟨b, off, rfl, ⟨hb, hbH⟩, fun j y hj => ?_⟩⟩, fun e => by simp at e; rw [e] at h0; simp at h0⟩
  rw [List.getElem?_map] at hj
  obtain ⟨s, hs, rfl⟩ := Option.map_eq_some_iff.1 hj
  obtain ⟨bd, od, cd, q0, q1, q2, q3, q4, q5⟩ := hc j s hs
  refine ⟨[.string s, .int .i64 6, .slice (some ⟨bd, od, none⟩) 1 cd], ⟨_, rfl, (one_slc q3 q5 cd).keep (fun _ _ => rfl) (by rintro k rfl; exact ⟨q3, q4⟩)⟩, fun i hi => ?_⟩
  have hi : i < 3 := hi
  rcases (show i = 0 ∨ i = 1 ∨ i = 2 by omega) with rfl | rfl | rfl
  · exact q0
  · exact q1
  · exact q2
/-- A row of such values whose dimensions lie elsewhere. -/
structure VlN (w : World) (g : Nat) (Z : Nat → Prop) (ns : List ByteArray) (x : Int) : Prop where
  lt : g < w.heap.size
  cells : ∀ j s, ns[j]? = some s → ∃ bd od cd, w.cell? ⟨g, j * 3, none⟩ = some (.string s) ∧ w.cell? ⟨g, j * 3 + 1, none⟩ = some (.int .i64 6) ∧ w.cell? ⟨g, j * 3 + 2, none⟩ = some (.slice (some ⟨bd, od, none⟩) 1 cd) ∧ (bd ≠ g ∧ Z bd) ∧ bd < w.heap.size ∧ w.cell? ⟨bd, od, none⟩ = some (.int .i64 x)
  frozen : ∀ i, w.frozen? ⟨g, i, none⟩ = false
theorem VlN.vlX {w : World} {g : Nat} {Z : Nat → Prop} {ns : List ByteArray} {x : Int} (h : VlN w g Z ns x) (hg : Z g) : VlX w Z (some ⟨g, 0, none⟩) ns x :=
  ⟨g, 0, rfl, h.lt, hg, fun j s hj => by
    obtain ⟨bd, od, cd, q0, q1, q2, ⟨_, q3⟩, q4, q5⟩ := h.cells j s hj
    exact ⟨bd, od, cd, by simpa using q0, by simpa using q1, by simpa using q2, q4, q3, q5⟩⟩
theorem VlN.below {w w' : World} {g : Nat} {Z : Nat → Prop} {ns : List ByteArray} {x : Int} (h : VlN w g Z ns x) (hb : Below w.heap.size w w') : VlN w' g Z ns x :=
  ⟨Nat.lt_of_lt_of_le h.lt hb.size, fun j s hj => by
    obtain ⟨bd, od, cd, q0, q1, q2, q3, q4, q5⟩ := h.cells j s hj
    exact ⟨bd, od, cd, (hb.cell (p := ⟨g, _, none⟩) h.lt).trans q0, (hb.cell (p := ⟨g, _, none⟩) h.lt).trans q1, (hb.cell (p := ⟨g, _, none⟩) h.lt).trans q2, q3, Nat.lt_of_lt_of_le q4 hb.size, (hb.cell (p := ⟨bd, od, none⟩) q4).trans q5⟩,
    fun i => (hb.frozen (p := ⟨g, i, none⟩) h.lt).trans (h.frozen i)⟩
/-- Other dimensions of one of them. -/
theorem VlN.set {w : World} {g : Nat} {Z : Nat → Prop} {ns : List ByteArray} {x : Int} (h : VlN w g Z ns x) (k : Nat) {b : Nat} (hb : b ≠ g) (hbH : Z b) (hl : b < w.heap.size) (hx : w.cell? ⟨b, 0, none⟩ = some (.int .i64 x)) (c : Nat) : VlN (w.setCell ⟨g, k * 3 + 2, none⟩ (.slice (some ⟨b, 0, none⟩) 1 c)) g Z ns x := by
  have far : ∀ (p : Addr), p.block ≠ g → (w.setCell ⟨g, k * 3 + 2, none⟩ (.slice (some ⟨b, 0, none⟩) 1 c)).cell? p = w.cell? p := fun p hp => World.cell?_of_block (Below.heap_setCell _ _ _ _ hp)
  have near : ∀ i, i ≠ k * 3 + 2 → (w.setCell ⟨g, k * 3 + 2, none⟩ (.slice (some ⟨b, 0, none⟩) 1 c)).cell? ⟨g, i, none⟩ = w.cell? ⟨g, i, none⟩ := fun i hi => World.cell?_setCell_other _ _ _ _ (fun e => hi (by injection e with _ e2 _; exact e2.symm))
  refine ⟨by simpa [World.setCell] using h.lt, fun j s hj => ?_, fun i => by rw [World.frozen?_setCell]; exact h.frozen i⟩
  obtain ⟨bd, od, cd, q0, q1, q2, q3, q4, q5⟩ := h.cells j s hj
  by_cases e : j = k
  · subst e
    refine ⟨b, 0, c, (near _ (by omega)).trans q0, (near _ (by omega)).trans q1, World.cell?_setCell_same' _ _ _ (by rw [q2]; rfl), ⟨hb, hbH⟩, by simpa [World.setCell] using hl, (far ⟨b, 0, none⟩ hb).trans hx⟩
  · exact ⟨bd, od, cd, (near _ (by omega)).trans q0, (near _ (by omega)).trans q1, (near _ (by omega)).trans q2, q3, by simpa [World.setCell] using q4, (far ⟨bd, od, none⟩ q3.1).trans q5⟩
/-- What a copy of a list of values leaves. -/
theorem vlN_clone {w w' : World} {Y Z : Nat → Prop} (hZ : ∀ k, Z k → k < w.heap.size ∧ Y k) {A : Option Addr} {c : Nat} {ns : List ByteArray} {x : Int} (h0 : 0 < ns.length) (h : OwnL repVl 28 w' w.heap.size Z (.slice A (ns.map (fun s => (⟨s, 6, [x]⟩ : Vl))).length c) (ns.map (fun s => ⟨s, 6, [x]⟩))) (hb : Below w.heap.size w w') : ∃ g, A = some ⟨g, 0, none⟩ ∧ w.heap.size ≤ g ∧ VlN w' g Y ns x := by
  have hlt := h.lt
  have hZ' : ∀ k, Z k → k < w'.heap.size := fun k hk => Nat.lt_of_lt_of_le (hZ k hk).1 hb.size
  obtain ⟨xs, hx, hr⟩ := h.own
  have hx' := hx
  rcases hx.2 with ⟨h1, h2⟩ | ⟨g, cap, cur, h1, hg, hh, _⟩
  · simp at h2; rw [h2] at h0; simp at h0
  · simp only [Value.slice.injEq] at h1
    obtain ⟨rfl, _, rfl⟩ := h1
    refine ⟨g, rfl, hg, (hlt g rfl).2, fun j s hj => ?_, fun i => hx'.frozenAt i⟩
    have hj' : (ns.map (fun s => (⟨s, 6, [x]⟩ : Vl)))[j]? = some ⟨s, 6, [x]⟩ := by rw [List.getElem?_map, hj]; rfl
    obtain ⟨cs, ⟨d, rfl, hd⟩, hi⟩ := hr j _ hj'
    obtain ⟨Ad, m, cd, rfl, hsd, h3⟩ := hd
    obtain ⟨hO, rfl⟩ := one_of ⟨Ad, m, cd, rfl, hsd, h3⟩ hZ'
    obtain ⟨bd, od, e1, hbd, _⟩ := hsd.at_ (by omega)
    subst e1
    obtain ⟨bd', od', e2, q4, q5⟩ := hO
    cases e2
    have hl : j < ns.length := (List.getElem?_eq_some_iff.1 hj).1
    have ce : ∀ i, i < 3 → w'.cell? ⟨g, j * 3 + i, none⟩ = xs[j * 3 + i]? := fun i hi3 => hx'.cellAt (j * 3 + i) (by rw [List.length_map]; show _ < ns.length * 3; omega)
    exact ⟨bd, od, cd, (ce 0 (by omega)).trans (hi 0 (by decide)), (ce 1 (by omega)).trans (hi 1 (by decide)), (ce 2 (by omega)).trans (hi 2 (by decide)), ⟨by have := (hZ _ hbd).1; omega, (hZ _ hbd).2⟩, q4, q5⟩
/-- What was there is as it was. -/
def Since (a b : World) : Prop := Below a.heap.size a b
theorem Since.refl (a : World) : Since a a := Below.refl _ _
theorem Since.trans {a b c : World} (h : Since a b) (g : Since b c) : Since a c := Below.trans h (Below.mono g h.size)
theorem Since.al {a b : World} (h : Since a b) (o : Obj) : Since a (b.alloc o) := h.trans (below_new b o)
theorem Since.al' {a b : World} {o : Obj} (h : Since a (b.alloc o)) (hs : a.heap.size ≤ b.heap.size) (o' : Obj) : Since a (b.alloc o') :=
  ⟨h.os, h.tape, h.output, by simp; omega, fun k hk => (Below.heap_alloc b o' _ (by omega)).trans ((Below.heap_alloc b o _ (by omega)).symm.trans (h.block k hk))⟩
theorem Since.nw {a b : World} {o : Obj} (h : Since (a.alloc o) b) : b.heap[a.heap.size]? = some o := (h.block _ (by simp)).trans (heap_alloc_new a o)
theorem Since.nw' {a b : World} {o : Obj} (h : Since (a.alloc o).drew b) : b.heap[a.heap.size]? = some o := (Below.block h _ (by show _ < (a.alloc o).heap.size; simp)).trans (heap_alloc_new a o)
theorem Since.kp {a b : World} {k : Nat} {o : Obj} (h : Since a b) (g : a.heap[k]? = some o) : b.heap[k]? = some o := (h.block k (Array.getElem?_eq_some_iff.1 g).1).trans g
theorem Since.dr {a b : World} (h : Since a b) : Since a b.drew := Below.drew h
theorem Since.drN {a b : World} (h : Since a b) (n : Nat) : Since a (b.drewN n) := below_drewN h n
theorem Since.set {a b : World} (h : Since a b) {p : Addr} (hp : a.heap.size ≤ p.block) (u : Value) : Since a (b.setCell p u) := Below.setCell h hp u
theorem VlX.mono {w : World} {Z Z' : Nat → Prop} {A : Option Addr} {ns : List ByteArray} {x : Int} (h : VlX w Z A ns x) (hZ : ∀ k, k < w.heap.size → Z k → Z' k) : VlX w Z' A ns x := by
  obtain ⟨b, off, e, h1, h0, h2⟩ := h
  refine ⟨b, off, e, h1, hZ b h1 h0, fun j s hj => ?_⟩
  obtain ⟨bd, od, c, q0, q1, q2, q3, q4, q5⟩ := h2 j s hj
  exact ⟨bd, od, c, q0, q1, q2, q3, hZ bd q3 q4, q5⟩
/-- A copy made since w2, in a world W: of all that came between, nothing lies in it. -/
structure VlC (w2 W W' : World) (A' : Option Addr) (ns : List ByteArray) (x : Int) : Prop where
  vl : VlX W' (fun k => k < w2.heap.size ∨ W.heap.size ≤ k) A' ns x
  since : Since W W'
  base : Since w2 W
theorem VlC.old {w2 W W' Wf : World} {A' : Option Addr} {ns : List ByteArray} {x : Int} (h : VlC w2 W W' A' ns x) (hs : Since W' Wf) {H : Nat} (h1 : w2.heap.size ≤ H) (h2 : H < W.heap.size ∨ W'.heap.size ≤ H) : VlX Wf (fun k => k ≠ H) A' ns x :=
  (h.vl.mono (fun k hk hz => by have := h.base.size; omega)).below hs
set_option maxHeartbeats 1600000 in
theorem ownV171 (A : Option Addr) (c : Nat) (Z : Nat → Prop) (ns : List ByteArray) (x : Int) (w : World) (h : VlX w Z A ns x) (h0 : 0 < ns.length) (h5 : ns.length ≤ 5) :
    Calls Tryz.prog 171 #[.slice A ns.length c] w fun e w' => ∃ A' c', e = .returned (.slice A' ns.length c') ∧ VlX w' (fun k => Z k ∨ w.heap.size ≤ k) A' ns x ∧ Below w.heap.size w w' := by
  have hC := clone194 (h.isSlc (by omega) h0 c) (fun _ h => h.1) (by simp; omega)
  have hnl : (ns.length : Int) ≤ 5 := by omega
  go_enter Tryz.func171, Tryz.ntmps171
  go_wp2_with fail
  refine hC.mono ?_
  rintro e w1 ⟨A1, c1, rfl, ho, hb⟩
  obtain ⟨g, rfl, hg, hv⟩ := vlN_clone (Y := fun k => Z k ∨ w.heap.size ≤ k) (fun _ h => ⟨h.1, .inl h.2⟩) h0 ho hb
  have hgH : Z g ∨ w.heap.size ≤ g := .inr hg
  have HV := Lib.hid hv
  have HB := Lib.hid hb
  have HG := Lib.hid hg
  clear hv hb hg ho hC
  simp only [List.length_map]
  go_wp2_with fail
  go_loopw [8] (fun i wr => ∃ k : Nat, k ≤ ns.length ∧ i = .int .i64 k ∧ VlN wr g (fun k => Z k ∨ w.heap.size ≤ k) ns x ∧ Below w.heap.size w wr) (fun i _ => ns.length - (intOf i).toNat)
  case atStart => exact ⟨0, by omega, rfl, HV.out, HB.out⟩
  case round =>
    obtain ⟨k, hk, rfl, hs, hb⟩ := hrel
    by_cases hlt : k < ns.length
    · obtain ⟨s, hs'⟩ : ∃ s, ns[k]? = some s := ⟨_, List.getElem?_eq_getElem hlt⟩
      obtain ⟨bd, od, cd, q0, q1, q2, q3, q4, q5⟩ := hs.cells k s hs'
      have hD := clone1_any wr (some ⟨bd, od, none⟩) cd x ⟨bd, od, rfl, q4, q5⟩
      have HS := Lib.hid hs
      have HBw := Lib.hid hb
      clear hs hb hs' q5 q3 q4
      go_wp2_with (go_at_call 65; refine hD.mono ?_; rintro e w3 ⟨A', c', rfl, hn3, hb3⟩; obtain ⟨g', rfl, j1, j2, j3, -⟩ := hn3; have hs3 := HS.out.below hb3; have fz := hs3.frozen (k * 3 + 2); have p2 := (hb3.cell (p := ⟨g, k * 3 + 2, none⟩) HS.out.lt).trans q2)
      go_roundw
      case rel => exact ⟨k + 1, by omega, by go_num, hs3.set k (by have := HS.out.lt; omega) (.inr (by have := HBw.out.size; omega)) j2 j3 c', (HBw.out.trans (hb3.mono HBw.out.size)).setCell HG.out _⟩
      case measure => simp [intOf]; omega
    · obtain rfl : k = ns.length := by omega
      have HS := Lib.hid hs
      have HBw := Lib.hid hb
      clear hs hb
      go_wp2_with fail
      go_ret
      exact ⟨_, _, rfl, HS.out.vlX hgH, HBw.out⟩
theorem ownC171 {w2 W : World} {A : Option Addr} {c n : Nat} {ns : List ByteArray} {x : Int} (hn : ns.length = n) (hv : VlAt w2 A ns x) (hs : Since w2 W) (h0 : 0 < n) (h5 : n ≤ 5) : Calls Tryz.prog 171 #[.slice A n c] W fun e W' => ∃ A' c', e = .returned (.slice A' n c') ∧ VlC w2 W W' A' ns x := by
  subst hn
  refine (ownV171 A c (fun k => k < w2.heap.size) ns x W ((hv.vlX (fun _ h => h)).below hs) h0 h5).mono ?_
  rintro e W' ⟨A', c', rfl, q1, q2⟩
  exact ⟨A', c', rfl, q1, q2, hs⟩
end Go.Proofs.YtbilddeepnnogaaGreatDoor
end
/- Copies: nodes. -/
section
set_option linter.unusedVariables false
set_option maxRecDepth 100000
namespace Go.Proofs.YtbilddeepnnogaaGreatDoor
open Go.RowKit Go.Shelf

theorem Xs.isSlc {w : World} {A : Option Addr} {m : Nat} (h : Xs w A m) (hm : m = 1 ∨ m = 2) (c : Nat) : IsSlc repStr w (fun k => k < w.heap.size) (.slice A m c) (List.replicate m ⟨#[120]⟩) := by
  obtain ⟨b, off, rfl, hb, hc⟩ := h
  refine ⟨_, _, _, rfl, ⟨by simp, by unfold maxLen; omega, fun _ => ⟨b, off, rfl, hb, fun j y hj => ?_⟩⟩, fun e => by have := congrArg List.length e; simp at this; omega⟩
  rw [List.getElem?_replicate] at hj
  split at hj
  · rename_i hlt
    cases hj
    refine ⟨_, rfl, fun i hi => ?_⟩
    obtain rfl : i = 0 := by have : i < 1 := hi; omega
    simpa [repStr] using hc j hlt
  · cases hj
/-- The same, in memory from B on. -/
def Xn (B : Nat) (w : World) (A : Option Addr) (m : Nat) : Prop := ∃ b off, A = some ⟨b, off, none⟩ ∧ B ≤ b ∧ b < w.heap.size ∧ ∀ j, j < m → w.cell? ⟨b, off + j, none⟩ = some (.string ⟨#[120]⟩)
theorem Xn.xs {B : Nat} {w : World} {A : Option Addr} {m : Nat} (h : Xn B w A m) : Xs w A m := by
  obtain ⟨b, off, e, _, h1, h2⟩ := h
  exact ⟨b, off, e, h1, h2⟩
theorem Xn.lower {B B' : Nat} {w : World} {A : Option Addr} {m : Nat} (h : Xn B w A m) (hB : B' ≤ B) : Xn B' w A m := by
  obtain ⟨b, off, e, h0, h1, h2⟩ := h
  exact ⟨b, off, e, Nat.le_trans hB h0, h1, h2⟩
theorem Xn.keep {B : Nat} {w w' : World} {A : Option Addr} {m : Nat} (h : Xn B w A m) (hk : ∀ k, B ≤ k → k < w.heap.size → w'.heap[k]? = w.heap[k]?) (hs : w.heap.size ≤ w'.heap.size) : Xn B w' A m := by
  obtain ⟨b, off, e, h0, h1, h2⟩ := h
  exact ⟨b, off, e, h0, Nat.lt_of_lt_of_le h1 hs, fun j hj => (World.cell?_of_block (a := ⟨b, off + j, none⟩) (hk b h0 h1)).trans (h2 j hj)⟩
theorem xs_of_own {w : World} {B : Nat} {Z : Nat → Prop} {A : Option Addr} {m c : Nat} (hm : m = 1 ∨ m = 2) (h : OwnL repStr 9 w B Z (.slice A m c) (List.replicate m ⟨#[120]⟩)) : Xn B w A m := by
  have hlt := h.lt
  obtain ⟨xs, hx, hr⟩ := h.own
  have hx' := hx
  rcases hx.2 with ⟨h1, h2⟩ | ⟨g, cap, cur, h1, hg, hh, _⟩
  · simp at h2; omega
  · simp only [Value.slice.injEq] at h1
    obtain ⟨rfl, _, rfl⟩ := h1
    refine ⟨g, 0, rfl, hg, (hlt g rfl).2, fun j hj => ?_⟩
    obtain ⟨cs, q1, q2⟩ := hr j ⟨#[120]⟩ (by rw [List.getElem?_replicate, if_pos hj])
    have hx2 : w.ownsRow B 9 1 (.slice (some ⟨g, 0, none⟩) m c) (List.replicate m (⟨#[120]⟩ : ByteArray)).length xs := hx'
    rw [List.length_replicate] at hx2
    have ce : w.cell? ⟨g, j, none⟩ = xs[j]? := hx2.cellAt j (by omega)
    have q3 := q2 0 (by decide)
    rw [show cs = [.string ⟨#[120]⟩] from q1] at q3
    rw [Nat.zero_add, ce]
    simpa [repStr] using q3
theorem cloneX (A : Option Addr) (m c : Nat) (w : World) (h : Xs w A m) (hm : m = 1 ∨ m = 2) : Calls Tryz.prog 73 #[.slice A m c] w fun e w' => ∃ A' c', e = .returned (.slice A' m c') ∧ Xn w.heap.size w' A' m ∧ Below w.heap.size w w' := by
  refine (clone73 (h.isSlc hm c) (fun _ h => h) (by simp; omega)).mono ?_
  rintro e w' ⟨A', c', rfl, ho, hb⟩
  rw [List.length_replicate] at ho ⊢
  exact ⟨A', c', rfl, xs_of_own hm ho, hb⟩
/-- A node in a box gets inputs of its own. -/
theorem node_set {F : World → Prop} {w w3 : World} {z : Obj} {v0 v1 v2 v3 : Value} (h : Fx w w3 [some (.cells #[v0, v1, v2, v3, .slice none 0 0] 37), some z]) (u : Value)
    (hk : ∀ W, Fx w W [some (.cells #[v0, v1, u, v3, .slice none 0 0] 37), some z] → (∀ k, k ≠ w.heap.size → W.heap[k]? = w3.heap[k]?) → W.heap.size = w3.heap.size → F W) : F ((w3.setCell ⟨w.heap.size, 2, none⟩ u).setCell ⟨w.heap.size, 4, none⟩ (.slice none 0 0)) := by
  have g0 := heap_setCell_same _ _ 2 _ _ u (h.b0 rfl)
  have g1 := heap_setCell_same _ _ 4 _ _ (.slice none 0 0) g0
  have far : ∀ k, k ≠ w.heap.size → ((w3.setCell ⟨w.heap.size, 2, none⟩ u).setCell ⟨w.heap.size, 4, none⟩ (.slice none 0 0)).heap[k]? = w3.heap[k]? := fun k hk => (Below.heap_setCell _ _ _ _ hk).trans (Below.heap_setCell _ _ _ _ hk)
  have hs := h.size
  simp at hs
  refine hk _ ⟨h.below.trans (Below.mk rfl rfl rfl (by simp [World.setCell]) (fun k hk => far k (by omega))), by simp [World.setCell]; omega, fun i o e => ?_⟩ far (by simp [World.setCell])
  match i, e with
  | 0, e => cases e; exact g1
  | 1, e => exact (far _ (by omega)).trans (h.at_ 1 _ e)
set_option maxHeartbeats 3200000 in
theorem ownN172 (op nm out : ByteArray) (A : Option Addr) (m c : Nat) (w : World) (h : Xs w A m) (hm : m = 1 ∨ m = 2) :
    Calls Tryz.prog 172 #[.agg #[.string op, .string nm, .slice A m c, .string out, .slice none 0 0]] w fun e w' => ∃ A' c', e = .returned (.agg #[.string op, .string nm, .slice A' m c', .string out, .slice none 0 0]) ∧ Xn w.heap.size w' A' m ∧ Below w.heap.size w w' := by
  have HX := Lib.hid h
  have HM := Lib.hid hm
  clear h hm
  go_enter Tryz.func172, Tryz.ntmps172
  go_wp2_with fail
  refine newX2 (F := fun W => Code.wp _ _ _ _ W) ?_
  intro w1 h1
  obtain ⟨r0, r1, r2, r3, r4, f0, f1, f2, f3, f4⟩ := cells5 (h1.b0 rfl)
  have HF := Lib.hid h1
  have z1 := h1.size
  simp at z1
  clear h1
  have HX1 := Lib.hid (show Xs w1.drew A m from HX.out.below HF.out.below.drew)
  have HF1 := Lib.hid HF.out.drew
  have z1' : w.heap.size + 2 ≤ w1.drew.heap.size := z1
  go_region_with
    (first
      | (go_at_call 73; refine (cloneX _ _ _ _ HX1.out HM.out).mono ?_; rintro e w3 ⟨A', c', rfl, hx3, hb3⟩; have h3 := HF1.out.all hb3; obtain ⟨r0, r1, r2, r3, r4, f0, f1, f2, f3, f4⟩ := cells5 (h3.b0 rfl))
      | (go_at_call 74; refine (clone74 _ _).mono ?_; rintro e w3 ⟨rfl, rfl⟩))
  all_goals
    have HXn := Lib.hid hx3
    clear hx3 hb3 r0 r1 r2 r3 r4 f0 f1 f2 f3 f4
    refine node_set (F := fun W => Exit.then _ _ _ _ W) h3 _ ?_
    intro w4 h4 hk4 hs4
    have HX4 := Lib.hid (HXn.out.keep (w' := w4) (fun k h1 _ => hk4 k (by omega)) (Nat.le_of_eq hs4.symm))
    obtain ⟨r0, r1, r2, r3, r4, f0, f1, f2, f3, f4⟩ := cells5 (h4.b0 rfl)
    obtain ⟨s0, s1, s2, s3, s4, e0, e1, e2, e3, e4⟩ := cells5 (h4.b1 rfl)
    have H4 := Lib.hid h4
    have hb4 := h4.b1 rfl
    clear h3 h4 HXn hk4 hs4
    go_wp2_with fail
    refine wp_loop_rounds 1 ?_
    rw [rounds_succ]
    go_wp2_with fail
    refine put5 (F := fun W => bodyPost _ _ _ _ _ W) hb4 ?_
    intro w5 g5 hk5 hb5 hz5
    refine bodyPost_ret (results_cell_row rfl _ _ (w.heap.size + 1) 37 _ (0, 0) _ rfl g5 Tryz.underlying37 rfl (by kernel_rfl)) rfl ?_
    exact ⟨A', c', rfl, (HX4.out.keep (w' := w5) (fun k h1 _ => hk5 k (by omega)) (Nat.le_of_eq hz5.symm)).lower (by omega), H4.out.below.trans (hb5.mono (by omega))⟩
end Go.Proofs.YtbilddeepnnogaaGreatDoor
end
/- Copies: the other packages' own (printed by gen_tw_own.py). -/
section
set_option linter.unusedVariables false
set_option maxRecDepth 100000
namespace Go.Proofs.YtbilddeepnnogaaGreatDoor
open Go.RowKit Go.Shelf

set_option maxHeartbeats 1600000 in
theorem ownV177 (A : Option Addr) (c : Nat) (Z : Nat → Prop) (ns : List ByteArray) (x : Int) (w : World) (h : VlX w Z A ns x) (h0 : 0 < ns.length) (h5 : ns.length ≤ 5) :
    Calls Tryz.prog 177 #[.slice A ns.length c] w fun e w' => ∃ A' c', e = .returned (.slice A' ns.length c') ∧ VlX w' (fun k => Z k ∨ w.heap.size ≤ k) A' ns x ∧ Below w.heap.size w w' := by
  have hC := clone194 (h.isSlc (by omega) h0 c) (fun _ h => h.1) (by simp; omega)
  have hnl : (ns.length : Int) ≤ 5 := by omega
  go_enter Tryz.func177, Tryz.ntmps177
  go_wp2_with fail
  refine hC.mono ?_
  rintro e w1 ⟨A1, c1, rfl, ho, hb⟩
  obtain ⟨g, rfl, hg, hv⟩ := vlN_clone (Y := fun k => Z k ∨ w.heap.size ≤ k) (fun _ h => ⟨h.1, .inl h.2⟩) h0 ho hb
  have hgH : Z g ∨ w.heap.size ≤ g := .inr hg
  have HV := Lib.hid hv
  have HB := Lib.hid hb
  have HG := Lib.hid hg
  clear hv hb hg ho hC
  simp only [List.length_map]
  go_wp2_with fail
  go_loopw [8] (fun i wr => ∃ k : Nat, k ≤ ns.length ∧ i = .int .i64 k ∧ VlN wr g (fun k => Z k ∨ w.heap.size ≤ k) ns x ∧ Below w.heap.size w wr) (fun i _ => ns.length - (intOf i).toNat)
  case atStart => exact ⟨0, by omega, rfl, HV.out, HB.out⟩
  case round =>
    obtain ⟨k, hk, rfl, hs, hb⟩ := hrel
    by_cases hlt : k < ns.length
    · obtain ⟨s, hs'⟩ : ∃ s, ns[k]? = some s := ⟨_, List.getElem?_eq_getElem hlt⟩
      obtain ⟨bd, od, cd, q0, q1, q2, q3, q4, q5⟩ := hs.cells k s hs'
      have hD := clone1_any wr (some ⟨bd, od, none⟩) cd x ⟨bd, od, rfl, q4, q5⟩
      have HS := Lib.hid hs
      have HBw := Lib.hid hb
      clear hs hb hs' q5 q3 q4
      go_wp2_with (go_at_call 65; refine hD.mono ?_; rintro e w3 ⟨A', c', rfl, hn3, hb3⟩; obtain ⟨g', rfl, j1, j2, j3, -⟩ := hn3; have hs3 := HS.out.below hb3; have fz := hs3.frozen (k * 3 + 2); have p2 := (hb3.cell (p := ⟨g, k * 3 + 2, none⟩) HS.out.lt).trans q2)
      go_roundw
      case rel => exact ⟨k + 1, by omega, by go_num, hs3.set k (by have := HS.out.lt; omega) (.inr (by have := HBw.out.size; omega)) j2 j3 c', (HBw.out.trans (hb3.mono HBw.out.size)).setCell HG.out _⟩
      case measure => simp [intOf]; omega
    · obtain rfl : k = ns.length := by omega
      have HS := Lib.hid hs
      have HBw := Lib.hid hb
      clear hs hb
      go_wp2_with fail
      go_ret
      exact ⟨_, _, rfl, HS.out.vlX hgH, HBw.out⟩
theorem ownC177 {w2 W : World} {A : Option Addr} {c n : Nat} {ns : List ByteArray} {x : Int} (hn : ns.length = n) (hv : VlAt w2 A ns x) (hs : Since w2 W) (h0 : 0 < n) (h5 : n ≤ 5) : Calls Tryz.prog 177 #[.slice A n c] W fun e W' => ∃ A' c', e = .returned (.slice A' n c') ∧ VlC w2 W W' A' ns x := by
  subst hn
  refine (ownV177 A c (fun k => k < w2.heap.size) ns x W ((hv.vlX (fun _ h => h)).below hs) h0 h5).mono ?_
  rintro e W' ⟨A', c', rfl, q1, q2⟩
  exact ⟨A', c', rfl, q1, q2, hs⟩
set_option maxHeartbeats 1600000 in
theorem ownV183 (A : Option Addr) (c : Nat) (Z : Nat → Prop) (ns : List ByteArray) (x : Int) (w : World) (h : VlX w Z A ns x) (h0 : 0 < ns.length) (h5 : ns.length ≤ 5) :
    Calls Tryz.prog 183 #[.slice A ns.length c] w fun e w' => ∃ A' c', e = .returned (.slice A' ns.length c') ∧ VlX w' (fun k => Z k ∨ w.heap.size ≤ k) A' ns x ∧ Below w.heap.size w w' := by
  have hC := clone194 (h.isSlc (by omega) h0 c) (fun _ h => h.1) (by simp; omega)
  have hnl : (ns.length : Int) ≤ 5 := by omega
  go_enter Tryz.func183, Tryz.ntmps183
  go_wp2_with fail
  refine hC.mono ?_
  rintro e w1 ⟨A1, c1, rfl, ho, hb⟩
  obtain ⟨g, rfl, hg, hv⟩ := vlN_clone (Y := fun k => Z k ∨ w.heap.size ≤ k) (fun _ h => ⟨h.1, .inl h.2⟩) h0 ho hb
  have hgH : Z g ∨ w.heap.size ≤ g := .inr hg
  have HV := Lib.hid hv
  have HB := Lib.hid hb
  have HG := Lib.hid hg
  clear hv hb hg ho hC
  simp only [List.length_map]
  go_wp2_with fail
  go_loopw [8] (fun i wr => ∃ k : Nat, k ≤ ns.length ∧ i = .int .i64 k ∧ VlN wr g (fun k => Z k ∨ w.heap.size ≤ k) ns x ∧ Below w.heap.size w wr) (fun i _ => ns.length - (intOf i).toNat)
  case atStart => exact ⟨0, by omega, rfl, HV.out, HB.out⟩
  case round =>
    obtain ⟨k, hk, rfl, hs, hb⟩ := hrel
    by_cases hlt : k < ns.length
    · obtain ⟨s, hs'⟩ : ∃ s, ns[k]? = some s := ⟨_, List.getElem?_eq_getElem hlt⟩
      obtain ⟨bd, od, cd, q0, q1, q2, q3, q4, q5⟩ := hs.cells k s hs'
      have hD := clone1_any wr (some ⟨bd, od, none⟩) cd x ⟨bd, od, rfl, q4, q5⟩
      have HS := Lib.hid hs
      have HBw := Lib.hid hb
      clear hs hb hs' q5 q3 q4
      go_wp2_with (go_at_call 65; refine hD.mono ?_; rintro e w3 ⟨A', c', rfl, hn3, hb3⟩; obtain ⟨g', rfl, j1, j2, j3, -⟩ := hn3; have hs3 := HS.out.below hb3; have fz := hs3.frozen (k * 3 + 2); have p2 := (hb3.cell (p := ⟨g, k * 3 + 2, none⟩) HS.out.lt).trans q2)
      go_roundw
      case rel => exact ⟨k + 1, by omega, by go_num, hs3.set k (by have := HS.out.lt; omega) (.inr (by have := HBw.out.size; omega)) j2 j3 c', (HBw.out.trans (hb3.mono HBw.out.size)).setCell HG.out _⟩
      case measure => simp [intOf]; omega
    · obtain rfl : k = ns.length := by omega
      have HS := Lib.hid hs
      have HBw := Lib.hid hb
      clear hs hb
      go_wp2_with fail
      go_ret
      exact ⟨_, _, rfl, HS.out.vlX hgH, HBw.out⟩
theorem ownC183 {w2 W : World} {A : Option Addr} {c n : Nat} {ns : List ByteArray} {x : Int} (hn : ns.length = n) (hv : VlAt w2 A ns x) (hs : Since w2 W) (h0 : 0 < n) (h5 : n ≤ 5) : Calls Tryz.prog 183 #[.slice A n c] W fun e W' => ∃ A' c', e = .returned (.slice A' n c') ∧ VlC w2 W W' A' ns x := by
  subst hn
  refine (ownV183 A c (fun k => k < w2.heap.size) ns x W ((hv.vlX (fun _ h => h)).below hs) h0 h5).mono ?_
  rintro e W' ⟨A', c', rfl, q1, q2⟩
  exact ⟨A', c', rfl, q1, q2, hs⟩
set_option maxHeartbeats 1600000 in
theorem ownV118 (A : Option Addr) (c : Nat) (Z : Nat → Prop) (ns : List ByteArray) (x : Int) (w : World) (h : VlX w Z A ns x) (h0 : 0 < ns.length) (h5 : ns.length ≤ 5) :
    Calls Tryz.prog 118 #[.slice A ns.length c] w fun e w' => ∃ A' c', e = .returned (.slice A' ns.length c') ∧ VlX w' (fun k => Z k ∨ w.heap.size ≤ k) A' ns x ∧ Below w.heap.size w w' := by
  have hC := clone194 (h.isSlc (by omega) h0 c) (fun _ h => h.1) (by simp; omega)
  have hnl : (ns.length : Int) ≤ 5 := by omega
  go_enter Tryz.func118, Tryz.ntmps118
  go_wp2_with fail
  refine hC.mono ?_
  rintro e w1 ⟨A1, c1, rfl, ho, hb⟩
  obtain ⟨g, rfl, hg, hv⟩ := vlN_clone (Y := fun k => Z k ∨ w.heap.size ≤ k) (fun _ h => ⟨h.1, .inl h.2⟩) h0 ho hb
  have hgH : Z g ∨ w.heap.size ≤ g := .inr hg
  have HV := Lib.hid hv
  have HB := Lib.hid hb
  have HG := Lib.hid hg
  clear hv hb hg ho hC
  simp only [List.length_map]
  go_wp2_with fail
  go_loopw [8] (fun i wr => ∃ k : Nat, k ≤ ns.length ∧ i = .int .i64 k ∧ VlN wr g (fun k => Z k ∨ w.heap.size ≤ k) ns x ∧ Below w.heap.size w wr) (fun i _ => ns.length - (intOf i).toNat)
  case atStart => exact ⟨0, by omega, rfl, HV.out, HB.out⟩
  case round =>
    obtain ⟨k, hk, rfl, hs, hb⟩ := hrel
    by_cases hlt : k < ns.length
    · obtain ⟨s, hs'⟩ : ∃ s, ns[k]? = some s := ⟨_, List.getElem?_eq_getElem hlt⟩
      obtain ⟨bd, od, cd, q0, q1, q2, q3, q4, q5⟩ := hs.cells k s hs'
      have hD := clone1_any wr (some ⟨bd, od, none⟩) cd x ⟨bd, od, rfl, q4, q5⟩
      have HS := Lib.hid hs
      have HBw := Lib.hid hb
      clear hs hb hs' q5 q3 q4
      go_wp2_with (go_at_call 65; refine hD.mono ?_; rintro e w3 ⟨A', c', rfl, hn3, hb3⟩; obtain ⟨g', rfl, j1, j2, j3, -⟩ := hn3; have hs3 := HS.out.below hb3; have fz := hs3.frozen (k * 3 + 2); have p2 := (hb3.cell (p := ⟨g, k * 3 + 2, none⟩) HS.out.lt).trans q2)
      go_roundw
      case rel => exact ⟨k + 1, by omega, by go_num, hs3.set k (by have := HS.out.lt; omega) (.inr (by have := HBw.out.size; omega)) j2 j3 c', (HBw.out.trans (hb3.mono HBw.out.size)).setCell HG.out _⟩
      case measure => simp [intOf]; omega
    · obtain rfl : k = ns.length := by omega
      have HS := Lib.hid hs
      have HBw := Lib.hid hb
      clear hs hb
      go_wp2_with fail
      go_ret
      exact ⟨_, _, rfl, HS.out.vlX hgH, HBw.out⟩
theorem ownC118 {w2 W : World} {A : Option Addr} {c n : Nat} {ns : List ByteArray} {x : Int} (hn : ns.length = n) (hv : VlAt w2 A ns x) (hs : Since w2 W) (h0 : 0 < n) (h5 : n ≤ 5) : Calls Tryz.prog 118 #[.slice A n c] W fun e W' => ∃ A' c', e = .returned (.slice A' n c') ∧ VlC w2 W W' A' ns x := by
  subst hn
  refine (ownV118 A c (fun k => k < w2.heap.size) ns x W ((hv.vlX (fun _ h => h)).below hs) h0 h5).mono ?_
  rintro e W' ⟨A', c', rfl, q1, q2⟩
  exact ⟨A', c', rfl, q1, q2, hs⟩
set_option maxHeartbeats 3200000 in
theorem ownN179 (op nm out : ByteArray) (A : Option Addr) (m c : Nat) (w : World) (h : Xs w A m) (hm : m = 1 ∨ m = 2) :
    Calls Tryz.prog 179 #[.agg #[.string op, .string nm, .slice A m c, .string out, .slice none 0 0]] w fun e w' => ∃ A' c', e = .returned (.agg #[.string op, .string nm, .slice A' m c', .string out, .slice none 0 0]) ∧ Xn w.heap.size w' A' m ∧ Below w.heap.size w w' := by
  have HX := Lib.hid h
  have HM := Lib.hid hm
  clear h hm
  go_enter Tryz.func179, Tryz.ntmps179
  go_wp2_with fail
  refine newX2 (F := fun W => Code.wp _ _ _ _ W) ?_
  intro w1 h1
  obtain ⟨r0, r1, r2, r3, r4, f0, f1, f2, f3, f4⟩ := cells5 (h1.b0 rfl)
  have HF := Lib.hid h1
  have z1 := h1.size
  simp at z1
  clear h1
  have HX1 := Lib.hid (show Xs w1.drew A m from HX.out.below HF.out.below.drew)
  have HF1 := Lib.hid HF.out.drew
  have z1' : w.heap.size + 2 ≤ w1.drew.heap.size := z1
  go_region_with
    (first
      | (go_at_call 73; refine (cloneX _ _ _ _ HX1.out HM.out).mono ?_; rintro e w3 ⟨A', c', rfl, hx3, hb3⟩; have h3 := HF1.out.all hb3; obtain ⟨r0, r1, r2, r3, r4, f0, f1, f2, f3, f4⟩ := cells5 (h3.b0 rfl))
      | (go_at_call 74; refine (clone74 _ _).mono ?_; rintro e w3 ⟨rfl, rfl⟩))
  all_goals
    have HXn := Lib.hid hx3
    clear hx3 hb3 r0 r1 r2 r3 r4 f0 f1 f2 f3 f4
    refine node_set (F := fun W => Exit.then _ _ _ _ W) h3 _ ?_
    intro w4 h4 hk4 hs4
    have HX4 := Lib.hid (HXn.out.keep (w' := w4) (fun k h1 _ => hk4 k (by omega)) (Nat.le_of_eq hs4.symm))
    obtain ⟨r0, r1, r2, r3, r4, f0, f1, f2, f3, f4⟩ := cells5 (h4.b0 rfl)
    obtain ⟨s0, s1, s2, s3, s4, e0, e1, e2, e3, e4⟩ := cells5 (h4.b1 rfl)
    have H4 := Lib.hid h4
    have hb4 := h4.b1 rfl
    clear h3 h4 HXn hk4 hs4
    go_wp2_with fail
    refine wp_loop_rounds 1 ?_
    rw [rounds_succ]
    go_wp2_with fail
    refine put5 (F := fun W => bodyPost _ _ _ _ _ W) hb4 ?_
    intro w5 g5 hk5 hb5 hz5
    refine bodyPost_ret (results_cell_row rfl _ _ (w.heap.size + 1) 37 _ (0, 0) _ rfl g5 Tryz.underlying37 rfl (by kernel_rfl)) rfl ?_
    exact ⟨A', c', rfl, (HX4.out.keep (w' := w5) (fun k h1 _ => hk5 k (by omega)) (Nat.le_of_eq hz5.symm)).lower (by omega), H4.out.below.trans (hb5.mono (by omega))⟩
set_option maxHeartbeats 3200000 in
theorem ownN185 (op nm out : ByteArray) (A : Option Addr) (m c : Nat) (w : World) (h : Xs w A m) (hm : m = 1 ∨ m = 2) :
    Calls Tryz.prog 185 #[.agg #[.string op, .string nm, .slice A m c, .string out, .slice none 0 0]] w fun e w' => ∃ A' c', e = .returned (.agg #[.string op, .string nm, .slice A' m c', .string out, .slice none 0 0]) ∧ Xn w.heap.size w' A' m ∧ Below w.heap.size w w' := by
  have HX := Lib.hid h
  have HM := Lib.hid hm
  clear h hm
  go_enter Tryz.func185, Tryz.ntmps185
  go_wp2_with fail
  refine newX2 (F := fun W => Code.wp _ _ _ _ W) ?_
  intro w1 h1
  obtain ⟨r0, r1, r2, r3, r4, f0, f1, f2, f3, f4⟩ := cells5 (h1.b0 rfl)
  have HF := Lib.hid h1
  have z1 := h1.size
  simp at z1
  clear h1
  have HX1 := Lib.hid (show Xs w1.drew A m from HX.out.below HF.out.below.drew)
  have HF1 := Lib.hid HF.out.drew
  have z1' : w.heap.size + 2 ≤ w1.drew.heap.size := z1
  go_region_with
    (first
      | (go_at_call 73; refine (cloneX _ _ _ _ HX1.out HM.out).mono ?_; rintro e w3 ⟨A', c', rfl, hx3, hb3⟩; have h3 := HF1.out.all hb3; obtain ⟨r0, r1, r2, r3, r4, f0, f1, f2, f3, f4⟩ := cells5 (h3.b0 rfl))
      | (go_at_call 74; refine (clone74 _ _).mono ?_; rintro e w3 ⟨rfl, rfl⟩))
  all_goals
    have HXn := Lib.hid hx3
    clear hx3 hb3 r0 r1 r2 r3 r4 f0 f1 f2 f3 f4
    refine node_set (F := fun W => Exit.then _ _ _ _ W) h3 _ ?_
    intro w4 h4 hk4 hs4
    have HX4 := Lib.hid (HXn.out.keep (w' := w4) (fun k h1 _ => hk4 k (by omega)) (Nat.le_of_eq hs4.symm))
    obtain ⟨r0, r1, r2, r3, r4, f0, f1, f2, f3, f4⟩ := cells5 (h4.b0 rfl)
    obtain ⟨s0, s1, s2, s3, s4, e0, e1, e2, e3, e4⟩ := cells5 (h4.b1 rfl)
    have H4 := Lib.hid h4
    have hb4 := h4.b1 rfl
    clear h3 h4 HXn hk4 hs4
    go_wp2_with fail
    refine wp_loop_rounds 1 ?_
    rw [rounds_succ]
    go_wp2_with fail
    refine put5 (F := fun W => bodyPost _ _ _ _ _ W) hb4 ?_
    intro w5 g5 hk5 hb5 hz5
    refine bodyPost_ret (results_cell_row rfl _ _ (w.heap.size + 1) 37 _ (0, 0) _ rfl g5 Tryz.underlying37 rfl (by kernel_rfl)) rfl ?_
    exact ⟨A', c', rfl, (HX4.out.keep (w' := w5) (fun k h1 _ => hk5 k (by omega)) (Nat.le_of_eq hz5.symm)).lower (by omega), H4.out.below.trans (hb5.mono (by omega))⟩
end Go.Proofs.YtbilddeepnnogaaGreatDoor
end
