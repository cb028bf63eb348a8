/- An attribute read: plain; cells put one by one; what the loop keeps. Lists of the call's own, more than one, each with its mark: which block holds whose cells. The walks: whether a graph has not too much; whether a node has not too much. -/
import Derived.Test.YtkcnpnnflbibiaaAo
import Derived.Test.YtkcnpnnflbibiaaAi
import Derived.Test.YtkcnpnnflbibiaaZl
set_option linter.unusedVariables false
/- An attribute read: plain; cells put one by one; what the loop keeps. -/
namespace Go.Proofs.Ytkcnpnnflbibiaa
open Go.RowKit

/-- Cells put into a block one by one. -/
def setFrom (w : World) (g : Nat) : Nat → List Value → World
  | _, [] => w
  | k, c :: cs => setFrom (w.setCell ⟨g, k, none⟩ c) g (k + 1) cs
def putAll (old : Array Value) : Nat → List Value → Array Value
  | _, [] => old
  | k, c :: cs => putAll (old.setIfInBounds k c) (k + 1) cs
theorem setFrom_heap (t : TypeId) (g : Nat) : ∀ (cs : List Value) (k : Nat) (w : World) (old : Array Value), w.heap[g]? = some (.cells old t (0, 0)) → (setFrom w g k cs).heap[g]? = some (.cells (putAll old k cs) t (0, 0)) := by
  intro cs
  induction cs with
  | nil => intro k w old h; exact h
  | cons c cs ih => intro k w old h; exact ih (k + 1) _ _ (heap_setCell_same w g k old t c h)
theorem setFrom_keep (g : Nat) : ∀ (cs : List Value) (k : Nat) (w : World), (∀ j, j ≠ g → (setFrom w g k cs).heap[j]? = w.heap[j]?) ∧ (setFrom w g k cs).heap.size = w.heap.size ∧ (setFrom w g k cs).os = w.os ∧ (setFrom w g k cs).tape = w.tape ∧ (setFrom w g k cs).output = w.output := by
  intro cs
  induction cs with
  | nil => intro k w; exact ⟨fun _ _ => rfl, rfl, rfl, rfl, rfl⟩
  | cons c cs ih =>
    intro k w
    obtain ⟨h1, h2, h3, h4, h5⟩ := ih (k + 1) (w.setCell ⟨g, k, none⟩ c)
    exact ⟨fun j hj => (h1 j hj).trans (Below.heap_setCell _ _ _ _ hj), h2.trans (by simp [World.setCell]), h3, h4, h5⟩
theorem setFrom_below {B g : Nat} (h : B ≤ g) (cs : List Value) (k : Nat) (w : World) : Below B w (setFrom w g k cs) := by
  obtain ⟨h1, h2, h3, h4, h5⟩ := setFrom_keep g cs k w
  exact ⟨h3, h4, h5, Nat.le_of_eq h2.symm, fun j hj => h1 j (by omega)⟩
theorem fin_row {α : Type} (ρ : Rep α) {w W : World} {B g : Nat} {cs : List Value} {old : Array Value} {t : TypeId} {x : α} {Z : Nat → Prop} (G : W.heap[g]? = some (.cells old t (0, 0))) (hl : putAll old 0 cs = cs.toArray) (hB : Below B w W) (hg : B ≤ g) (hR : ρ.R W Z cs x)
    (hZ : ∀ k, Z k → k ≠ g ∧ B ≤ k ∧ k < W.heap.size) :
    (setFrom W g 0 cs).heap[g]? = some (.cells cs.toArray t (0, 0)) ∧ Below B w (setFrom W g 0 cs) ∧ ρ.R (setFrom W g 0 cs) (fun k => B ≤ k ∧ k < (setFrom W g 0 cs).heap.size) cs x := by
  obtain ⟨h1, h2, _⟩ := setFrom_keep g cs 0 W
  refine ⟨?_, hB.trans (setFrom_below hg cs 0 W), ρ.keep hR (fun k hk => h1 k (hZ k hk).1) (fun k hk => ⟨(hZ k hk).2.1, by rw [h2]; exact (hZ k hk).2.2⟩)⟩
  have := setFrom_heap t g cs 0 W old G
  rwa [hl] at this
theorem isSlc_nil {α : Type} (ρ : Rep α) (w : World) (Z : Nat → Prop) : IsSlc ρ w Z (.slice none 0 0) [] := ⟨none, 0, 0, rfl, Slc.nil_⟩

structure AAcc where
  name : ByteArray
  kind : Int
  f : Int
  i : Int
  s : ByteArray
  t : ByteArray
  had : Bool
  ints : List Int
def AAcc.none : AAcc := ⟨⟨#[]⟩, 0, 0, 0, ⟨#[]⟩, ⟨#[]⟩, false, []⟩
def aStep (a : AAcc) (f : Fd) : Except Int AAcc :=
  if f.num = 1 then (if f.kind = 2 then .ok { a with name := f.b } else .error 3)
  else if f.num = 2 then (if f.kind = 5 then .ok { a with f := flt f.u } else .error 3)
  else if f.num = 3 then (if f.kind = 0 then .ok { a with i := i64 f.u } else .error 3)
  else if f.num = 4 then (if f.kind = 2 then .ok { a with s := f.b } else .error 3)
  else if f.num = 5 then (if f.kind = 2 then .ok { a with t := a.t ++ f.b, had := true } else .error 3)
  else if f.num = 8 then (orErr 3 (varsS f)).map fun m => { a with ints := a.ints ++ m }
  else if f.num = 20 then (if f.kind = 0 then .ok { a with kind := i64 f.u } else .error 3)
  else .ok a
def tNone : Tn := ⟨0, [], []⟩
def aTen (a : AAcc) : Except Int Tn := if a.had then (match tensorE a.t with | .error e => .error e | .ok n => .ok n.t) else .ok tNone
def aKind (a : AAcc) (t : Tn) : Except Int At :=
  if a.kind = 1 then .ok ⟨a.name, 1, a.f, 0, ⟨#[]⟩, tNone, []⟩
  else if a.kind = 2 then .ok ⟨a.name, 2, 0, a.i, ⟨#[]⟩, tNone, []⟩
  else if a.kind = 3 then .ok ⟨a.name, 3, 0, 0, a.s, tNone, []⟩
  else if a.kind = 4 then (if a.had then .ok ⟨a.name, 4, 0, 0, ⟨#[]⟩, t, []⟩ else .error 4)
  else if a.kind = 7 then .ok ⟨a.name, 7, 0, 0, ⟨#[]⟩, tNone, a.ints⟩
  else .error 5
def aLim (x : At) : Except Int At := if x.name.size ≤ 100 ∧ x.s.size ≤ 100 ∧ x.ints.length ≤ 20 then .ok x else .error 6
def aEnd (a : AAcc) : Except Int At :=
  match aTen a with
  | .error e => .error e
  | .ok t => match aKind a t with
    | .error e => .error e
    | .ok x => aLim x
def attrE (s : ByteArray) : Except Int At :=
  match fldsE s with
  | .error e => .error e
  | .ok l => match runF aStep .none l with
    | .error e => .error e
    | .ok a => aEnd a
/-- What attribute leaves. -/
def AttrIs (s : ByteArray) (w : World) (e : Ending) (w' : World) : Prop :=
  Below w.heap.size w w' ∧ ((∃ t cs, attrE s = .ok t ∧ e = .returned (.agg cs.toArray) ∧ repAt.R w' (fun k => w.heap.size ≤ k ∧ k < w'.heap.size) cs t) ∨ (∃ err, attrE s = .error err ∧ e = .panicked (refu err)))
theorem attr_no {s : ByteArray} {w w' : World} {err : Int} (hb : Below w.heap.size w w') (h : attrE s = .error err) : AttrIs s w (.panicked (refu err)) w' := ⟨hb, .inr ⟨err, h, rfl⟩⟩
theorem attrE_bad {s : ByteArray} {l : List Fd} (hl : fldsE s = .ok l) {k : Nat} {f : Fd} (hf : l[k]? = some f) {a : AAcc} (ha : runF aStep .none (l.take k) = .ok a) {e : Int} (hs : aStep a f = .error e) : attrE s = .error e := by
  unfold attrE
  rw [hl]
  simp only []
  rw [runF_bad aStep .none l k f hf a ha e hs]

theorem Only2.of_below {b c : Nat} {x y z : World} (h : Only2 b c x y) (hb : Below y.heap.size y z) : Only2 b c x z :=
  ⟨hb.os.trans h.os, hb.tape.trans h.tape, hb.output.trans h.output, Nat.le_trans h.size hb.size, fun k hk h1 h2 => (hb.block k (Nat.lt_of_lt_of_le hk h.size)).trans (h.block k hk h1 h2)⟩
theorem Only2.fst {b c : Nat} {x y : World} (h : Only2 b c x y) (i : Nat) (u : Value) : Only2 b c x (y.setCell ⟨b, i, none⟩ u) :=
  h.trans ⟨rfl, rfl, rfl, by simp [World.setCell], fun k _ hb _ => Below.heap_setCell _ _ _ _ hb⟩
theorem Only2.of_grown {b c : Nat} {x y z : World} {r : Option Nat} (h : Only2 b c x y) (hg : y.grownBy z r) (hr : ∀ k, r = some k → x.heap.size ≤ k) : Only2 b c x z :=
  ⟨hg.os.trans h.os, hg.tape.trans h.tape, hg.output.trans h.output, Nat.le_trans h.size hg.size, fun k hk h1 h2 =>
    (hg.block k (Nat.lt_of_lt_of_le hk h.size) fun e => by have := hr k e.symm; omega).trans (h.block k hk h1 h2)⟩
abbrev nilV : Value := .slice none 0 0
structure AInv (w1 wr : World) (ga gl : Nat) (a : AAcc) (v : Value) : Prop where
  lta : ga < w1.heap.size
  ltl : gl < w1.heap.size
  ne : ga ≠ gl
  own : OwnI wr w1.heap.size v a.ints
  only : Only2 ga gl w1 wr
  ta : wr.heap[ga]? = some (.cells #[.string a.name, .int .i64 a.kind, .int .i64 0, .int .i64 0, .string ⟨#[]⟩, .int .i64 0, nilV, nilV, nilV] 88 (0, 0))
  tl : wr.heap[gl]? = some (.cells #[.string ⟨#[]⟩, .int .i64 0, .int .i64 a.f, .int .i64 a.i, .string a.s, .int .i64 0, nilV, nilV, v] 88 (0, 0))
section
variable {w1 wr w' : World} {ga gl : Nat} {a : AAcc} {v v' : Value} {m : List Int}
theorem AInv.below (h : AInv w1 wr ga gl a v) (hb : Below wr.heap.size wr w') : AInv w1 w' ga gl a v :=
  ⟨h.lta, h.ltl, h.ne, h.own.below hb, h.only.of_below hb, (hb.block ga (Nat.lt_of_lt_of_le h.lta h.only.size)).trans h.ta, (hb.block gl (Nat.lt_of_lt_of_le h.ltl h.only.size)).trans h.tl⟩
theorem AInv.alloc (h : AInv w1 wr ga gl a v) (o : Obj) : AInv w1 (wr.alloc o) ga gl a v := h.below ((Below.refl _ _).alloc (Nat.le_refl _) o)
theorem AInv.seta (h : AInv w1 wr ga gl a v) (a' : AAcc) (i : Nat) (u : Value) (e1 : a'.f = a.f) (e2 : a'.i = a.i) (e3 : a'.s = a.s) (e4 : a'.ints = a.ints)
    (ht : (#[Value.string a.name, .int .i64 a.kind, .int .i64 0, .int .i64 0, .string ⟨#[]⟩, .int .i64 0, nilV, nilV, nilV] : Array Value).setIfInBounds i u = #[.string a'.name, .int .i64 a'.kind, .int .i64 0, .int .i64 0, .string ⟨#[]⟩, .int .i64 0, nilV, nilV, nilV]) : AInv w1 (wr.setCell ⟨ga, i, none⟩ u) ga gl a' v :=
  ⟨h.lta, h.ltl, h.ne, by rw [e4]; exact h.own.set_far (by exact h.lta) _, h.only.fst _ _, by rw [heap_setCell_same wr ga i _ 88 u h.ta, ht], by rw [e1, e2, e3]; exact (Below.heap_setCell _ _ _ _ (by exact h.ne.symm)).trans h.tl⟩
theorem AInv.setl (h : AInv w1 wr ga gl a v) (a' : AAcc) (i : Nat) (u : Value) (e1 : a'.name = a.name) (e2 : a'.kind = a.kind) (e4 : a'.ints = a.ints)
    (ht : (#[Value.string ⟨#[]⟩, .int .i64 0, .int .i64 a.f, .int .i64 a.i, .string a.s, .int .i64 0, nilV, nilV, v] : Array Value).setIfInBounds i u = #[.string ⟨#[]⟩, .int .i64 0, .int .i64 a'.f, .int .i64 a'.i, .string a'.s, .int .i64 0, nilV, nilV, v]) : AInv w1 (wr.setCell ⟨gl, i, none⟩ u) ga gl a' v :=
  ⟨h.lta, h.ltl, h.ne, by rw [e4]; exact h.own.set_far (by exact h.ltl) _, h.only.snd _ _, by rw [e1, e2]; exact (Below.heap_setCell _ _ _ _ (by exact h.ne)).trans h.ta, by rw [heap_setCell_same wr gl i _ 88 u h.tl, ht]⟩
theorem AInv.set_no (h : AInv w1 wr ga gl a v) (a' : AAcc) (e1 : a'.name = a.name) (e2 : a'.kind = a.kind) (e3 : a'.f = a.f) (e5 : a'.i = a.i) (e6 : a'.s = a.s) (e4 : a'.ints = a.ints) : AInv w1 wr ga gl a' v :=
  ⟨h.lta, h.ltl, h.ne, by rw [e4]; exact h.own, h.only, by rw [e1, e2]; exact h.ta, by rw [e3, e5, e6]; exact h.tl⟩
theorem AInv.tl_grown (h : AInv w1 wr ga gl a v) (hg : wr.grownBy w' v.ownBlock) : w'.heap[gl]? = some (.cells #[.string ⟨#[]⟩, .int .i64 0, .int .i64 a.f, .int .i64 a.i, .string a.s, .int .i64 0, nilV, nilV, v] 88 (0, 0)) :=
  (hg.block gl (Nat.lt_of_lt_of_le h.ltl h.only.size) fun e => by have := (OwnL.lt h.own gl e.symm).1; have := h.ltl; omega).trans h.tl
theorem AInv.more (h : AInv w1 wr ga gl a v) (hg : wr.grownBy w' v.ownBlock) (ho : OwnI w' w1.heap.size v' (a.ints ++ m)) : AInv w1 (w'.setCell ⟨gl, 8, none⟩ v') ga gl { a with ints := a.ints ++ m } v' := by
  refine ⟨h.lta, h.ltl, h.ne, ho.set_far (by exact h.ltl) _, (h.only.of_grown hg fun k hk => (OwnL.lt h.own k hk).1).snd _ _, ?_, ?_⟩
  · exact (Below.heap_setCell _ _ _ _ (by exact h.ne)).trans ((hg.block ga (Nat.lt_of_lt_of_le h.lta h.only.size) fun e => by have := (OwnL.lt h.own ga e.symm).1; have := h.lta; omega).trans h.ta)
  · have := heap_setCell_same w' gl 8 _ 88 v' (h.tl_grown hg)
    simpa using this
end
theorem a_lens : ∀ l (a b : AAcc), runF aStep a l = .ok b → b.ints.length ≤ a.ints.length + wt l ∧ b.t.size ≤ a.t.size + wt l := by
  intro l
  induction l with
  | nil => intro a b h; cases h; simp [wt]
  | cons f l ih =>
    intro a b h
    simp only [runF] at h
    cases hs : aStep a f with
    | error e => rw [hs] at h; cases h
    | ok c =>
      rw [hs] at h
      have h1 := ih c b h
      have h2 : c.ints.length ≤ a.ints.length + f.b.size + 1 ∧ c.t.size ≤ a.t.size + f.b.size := by
        unfold aStep at hs
        split at hs
        · split at hs <;> cases hs; simp; omega
        split at hs
        · split at hs <;> cases hs; simp; omega
        split at hs
        · split at hs <;> cases hs; simp; omega
        split at hs
        · split at hs <;> cases hs; simp; omega
        split at hs
        · split at hs <;> cases hs; simp; omega
        split at hs
        · cases hv : varsS f with
          | none => rw [hv] at hs; cases hs
          | some m =>
            rw [hv] at hs
            have := vars_len hv
            cases hs
            simp; omega
        split at hs
        · split at hs <;> cases hs; simp; omega
        · cases hs; simp; omega
      simp only [wt]; omega


theorem szn : (⟨#[]⟩ : ByteArray).size = 0 := rfl
abbrev zeroAt : Array Value := #[.string ⟨#[]⟩, .int .i64 0, .int .i64 0, .int .i64 0, .string ⟨#[]⟩, .int .i64 0, nilV, nilV, nilV]
/-- Behind the loop, the tensor read. -/
structure AMid (w w1 wx : World) (a : AAcc) (t : Tn) (v d e : Value) : Prop where
  sz : w.heap.size + 3 ≤ w1.heap.size
  sz1 : w1.heap.size ≤ wx.heap.size
  ta : wx.heap[w.heap.size + 1]? = some (.cells #[.string a.name, .int .i64 a.kind, .int .i64 0, .int .i64 0, .string ⟨#[]⟩, .int .i64 0, nilV, nilV, nilV] 88 (0, 0))
  tl : wx.heap[w.heap.size + 1 + 1]? = some (.cells #[.string ⟨#[]⟩, .int .i64 0, .int .i64 a.f, .int .i64 a.i, .string a.s, .int .i64 t.typ, d, e, v] 88 (0, 0))
  tr : wx.heap[w.heap.size]? = some (.cells zeroAt 88 (0, 0))
  below : Below w.heap.size w wx
  own : OwnI wx w1.heap.size v a.ints
  dims : IsSlc repInt wx (fun k => w1.heap.size ≤ k ∧ k < wx.heap.size) d t.dims
  data : IsSlc repInt wx (fun k => w1.heap.size ≤ k ∧ k < wx.heap.size) e t.data
/-- The attribute whole. -/
structure AFin (w w1 wx : World) (x : At) (cs : List Value) : Prop where
  ta : wx.heap[w.heap.size + 1]? = some (.cells cs.toArray 88 (0, 0))
  tr : wx.heap[w.heap.size]? = some (.cells zeroAt 88 (0, 0))
  below : Below w.heap.size w wx
  rep : repAt.R wx (fun k => w1.heap.size ≤ k ∧ k < wx.heap.size) cs x
  sz : w.heap.size + 3 ≤ w1.heap.size
section
variable {w w1 wr wx : World} {a : AAcc} {t : Tn} {v d e : Value}
theorem AInv.mid (h : AInv w1 wr (w.heap.size + 1) (w.heap.size + 1 + 1) a v) (hz : w.heap.size + 3 ≤ w1.heap.size) (hb : Below w.heap.size w wr) (hr : wr.heap[w.heap.size]? = some (.cells zeroAt 88 (0, 0))) : AMid w w1 wr a tNone v nilV nilV :=
  ⟨hz, h.only.size, h.ta, h.tl, hr, hb, h.own, isSlc_nil _ _ _, isSlc_nil _ _ _⟩
theorem AInv.mid_t {w2 : World} {n : Nm} (h : AInv w1 wr (w.heap.size + 1) (w.heap.size + 1 + 1) a v) (hz : w.heap.size + 3 ≤ w1.heap.size) (hb : Below w.heap.size w wr) (hr : wr.heap[w.heap.size]? = some (.cells zeroAt 88 (0, 0)))
    (hb2 : Below wr.heap.size wr w2) (hd : IsSlc repInt w2 (fun k => wr.heap.size ≤ k ∧ k < w2.heap.size) d n.t.dims) (he : IsSlc repInt w2 (fun k => wr.heap.size ≤ k ∧ k < w2.heap.size) e n.t.data) :
    AMid w w1 (((w2.setCell ⟨w.heap.size + 1 + 1, 5, none⟩ (.int .i64 n.t.typ)).setCell ⟨w.heap.size + 1 + 1, 6, none⟩ d).setCell ⟨w.heap.size + 1 + 1, 7, none⟩ e) a n.t v d e := by
  have h2 := h.below hb2
  have z := h.only.size
  have z2 := hb2.size
  show AMid w w1 (setFrom w2 (w.heap.size + 1 + 1) 5 [.int .i64 n.t.typ, d, e]) a n.t v d e
  obtain ⟨q1, q2, _⟩ := setFrom_keep (w.heap.size + 1 + 1) [.int .i64 n.t.typ, d, e] 5 w2
  refine ⟨hz, by rw [q2]; omega, (q1 _ (by omega)).trans h2.ta, ?_, (q1 _ (by omega)).trans ((hb2.block _ (by omega)).trans hr), (hb.trans (hb2.mono hb.size)).trans (setFrom_below (by omega) _ _ _), h2.own.keep fun k hk => q1 k (by have := (OwnL.lt h2.own k hk).1; omega), hd.keep (fun k hk => q1 k (by omega)) (fun k hk => ⟨by omega, by rw [q2]; exact hk.2⟩), he.keep (fun k hk => q1 k (by omega)) (fun k hk => ⟨by omega, by rw [q2]; exact hk.2⟩)⟩
  have := setFrom_heap 88 (w.heap.size + 1 + 1) [.int .i64 n.t.typ, d, e] 5 w2 _ h2.tl
  simpa [putAll] using this
theorem AMid.fin (h : AMid w w1 wx a t v d e) (x : At) (cs : List Value) (k : Nat) (us : List Value) (hp : putAll #[.string a.name, .int .i64 a.kind, .int .i64 0, .int .i64 0, .string ⟨#[]⟩, .int .i64 0, nilV, nilV, nilV] k us = cs.toArray) (hr : repAt.R wx (fun k => w1.heap.size ≤ k ∧ k < wx.heap.size) cs x) :
    AFin w w1 (setFrom wx (w.heap.size + 1) k us) x cs := by
  obtain ⟨q1, q2, _⟩ := setFrom_keep (w.heap.size + 1) us k wx
  have hz := h.sz
  refine ⟨?_, (q1 _ (by omega)).trans h.tr, h.below.trans (setFrom_below (by omega) _ _ _), repAt.keep hr (fun k hk => q1 k (by omega)) (fun k hk => ⟨hk.1, by rw [q2]; exact hk.2⟩), hz⟩
  rw [setFrom_heap 88 _ us k wx _ h.ta, hp]
theorem AMid.k1 (h : AMid w w1 wx a t v d e) (hk : a.kind = 1) : AFin w w1 (wx.setCell ⟨w.heap.size + 1, 2, none⟩ (.int .i64 a.f)) ⟨a.name, 1, a.f, 0, ⟨#[]⟩, tNone, []⟩ [.string a.name, .int .i64 1, .int .i64 a.f, .int .i64 0, .string ⟨#[]⟩, .int .i64 0, nilV, nilV, nilV] :=
  h.fin _ _ 2 [.int .i64 a.f] (by rw [hk]; simp [putAll]) ⟨_, _, _, rfl, isSlc_nil _ _ _, isSlc_nil _ _ _, isSlc_nil _ _ _⟩
theorem AMid.k2 (h : AMid w w1 wx a t v d e) (hk : a.kind = 2) : AFin w w1 (wx.setCell ⟨w.heap.size + 1, 3, none⟩ (.int .i64 a.i)) ⟨a.name, 2, 0, a.i, ⟨#[]⟩, tNone, []⟩ [.string a.name, .int .i64 2, .int .i64 0, .int .i64 a.i, .string ⟨#[]⟩, .int .i64 0, nilV, nilV, nilV] :=
  h.fin _ _ 3 [.int .i64 a.i] (by rw [hk]; simp [putAll]) ⟨_, _, _, rfl, isSlc_nil _ _ _, isSlc_nil _ _ _, isSlc_nil _ _ _⟩
theorem AMid.k3 (h : AMid w w1 wx a t v d e) (hk : a.kind = 3) : AFin w w1 (wx.setCell ⟨w.heap.size + 1, 4, none⟩ (.string a.s)) ⟨a.name, 3, 0, 0, a.s, tNone, []⟩ [.string a.name, .int .i64 3, .int .i64 0, .int .i64 0, .string a.s, .int .i64 0, nilV, nilV, nilV] :=
  h.fin _ _ 4 [.string a.s] (by rw [hk]; simp [putAll]) ⟨_, _, _, rfl, isSlc_nil _ _ _, isSlc_nil _ _ _, isSlc_nil _ _ _⟩
theorem AMid.k4 (h : AMid w w1 wx a t v d e) (hk : a.kind = 4) : AFin w w1 (((wx.setCell ⟨w.heap.size + 1, 5, none⟩ (.int .i64 t.typ)).setCell ⟨w.heap.size + 1, 6, none⟩ d).setCell ⟨w.heap.size + 1, 7, none⟩ e) ⟨a.name, 4, 0, 0, ⟨#[]⟩, t, []⟩ [.string a.name, .int .i64 4, .int .i64 0, .int .i64 0, .string ⟨#[]⟩, .int .i64 t.typ, d, e, nilV] :=
  h.fin _ _ 5 [.int .i64 t.typ, d, e] (by rw [hk]; simp [putAll]) ⟨_, _, _, rfl, h.dims, h.data, isSlc_nil _ _ _⟩
theorem AMid.k7 (h : AMid w w1 wx a t v d e) (hk : a.kind = 7) : AFin w w1 (wx.setCell ⟨w.heap.size + 1, 8, none⟩ v) ⟨a.name, 7, 0, 0, ⟨#[]⟩, tNone, a.ints⟩ [.string a.name, .int .i64 7, .int .i64 0, .int .i64 0, .string ⟨#[]⟩, .int .i64 0, nilV, nilV, v] :=
  h.fin _ _ 8 [v] (by rw [hk]; simp [putAll]) ⟨_, _, _, rfl, isSlc_nil _ _ _, isSlc_nil _ _ _, own_isSlc h.own (Nat.le_refl _)⟩
end
end Go.Proofs.Ytkcnpnnflbibiaa

/- Lists of the call's own, more than one, each with its mark: which block holds whose cells. -/
namespace Go.Proofs.Ytkcnpnnflbibiaa
open Go.RowKit

/-- The blocks of nested data: from lo on, with the mark 0. -/
def Zl (lab : Nat → Nat) (lo : Nat) (w : World) : Nat → Prop := fun k => lab k = 0 ∧ lo ≤ k ∧ k < w.heap.size
/-- Behind the heap's end every mark is 0. -/
def Fresh (lab : Nat → Nat) (w : World) : Prop := ∀ k, w.heap.size ≤ k → lab k = 0
/-- An own list whose row has the mark i. -/
structure OL {α : Type} (ρ : Rep α) (e : TypeId) (lab : Nat → Nat) (i : Nat) (w : World) (lo : Nat) (v : Value) (l : List α) : Prop where
  own : OwnL ρ e w lo (Zl lab lo w) v l
  mark : ∀ k, v.ownBlock = some k → lab k = i
/-- A list of mark i has grown; its row's new block, if any, is marked. -/
structure Grew (lab lab' : Nat → Nat) (i : Nat) (w w' : World) : Prop where
  os : w'.os = w.os
  tape : w'.tape = w.tape
  output : w'.output = w.output
  size : w.heap.size ≤ w'.heap.size
  keep : ∀ k, k < w.heap.size → lab k ≠ i → w'.heap[k]? = w.heap[k]?
  lab : ∀ k, k < w.heap.size → lab' k = lab k
  fresh : Fresh lab' w'

section
variable {α : Type} {ρ : Rep α} {e : TypeId} {lab lab' : Nat → Nat} {i j : Nat} {w w' : World} {lo : Nat} {v v' : Value} {l : List α}
theorem ol_nil (ρ : Rep α) (e : TypeId) (lab : Nat → Nat) (i : Nat) (w : World) (lo : Nat) : OL ρ e lab i w lo (.slice none 0 0) [] := ⟨ownL_nil, fun _ h => by simp [Value.ownBlock] at h⟩
theorem fresh_none (w : World) : Fresh (fun _ => 0) w := fun _ _ => rfl
theorem Fresh.more (h : Fresh lab w) (hs : w.heap.size ≤ w'.heap.size) : Fresh lab w' := fun k hk => h k (Nat.le_trans hs hk)
theorem OL.form (h : OL ρ e lab i w lo v l) : ∃ A c, v = .slice A l.length c := h.own.form
theorem OL.lt (h : OL ρ e lab i w lo v l) : ∀ k, v.ownBlock = some k → lo ≤ k ∧ k < w.heap.size := h.own.lt
theorem OL.below (h : OL ρ e lab i w lo v l) (hb : Below w.heap.size w w') : OL ρ e lab i w' lo v l :=
  ⟨h.own.keep (fun k hk => hb.block k (h.lt k hk).2) (fun k hk => hb.block k hk.2.2) (fun k hk => ⟨hk.1, hk.2.1, Nat.lt_of_lt_of_le hk.2.2 hb.size⟩), h.mark⟩
theorem OL.set_far (h : OL ρ e lab i w lo v l) {a : Addr} (ha : a.block < lo) (u : Value) : OL ρ e lab i (w.setCell a u) lo v l :=
  ⟨h.own.keep (fun k hk => Below.heap_setCell _ _ _ _ (by have := (h.lt k hk).1; omega)) (fun k hk => Below.heap_setCell _ _ _ _ (by have := hk.2.1; omega)) (fun k hk => ⟨hk.1, hk.2.1, by simpa [World.setCell] using hk.2.2⟩), h.mark⟩
theorem OL.other (h : OL ρ e lab j w lo v l) (hg : Grew lab lab' i w w') (hij : j ≠ i) (h0 : i ≠ 0) : OL ρ e lab' j w' lo v l :=
  ⟨h.own.keep (fun k hk => hg.keep k (h.lt k hk).2 (by rw [h.mark k hk]; exact hij)) (fun k hk => hg.keep k hk.2.2 (by rw [hk.1]; exact fun e => h0 e.symm)) (fun k hk => ⟨by rw [hg.lab k hk.2.2]; exact hk.1, hk.2.1, Nat.lt_of_lt_of_le hk.2.2 hg.size⟩),
    fun k hk => by rw [hg.lab k (h.lt k hk).2]; exact h.mark k hk⟩
theorem OL.isSlc (h : OL ρ e lab i w lo v l) (hsz : 0 < ρ.sz) : IsSlc ρ w (fun k => lo ≤ k ∧ k < w.heap.size) v l := by
  obtain ⟨A, c, rfl⟩ := h.form
  refine ⟨A, _, c, rfl, h.own.slc rfl hsz (fun k hk => hk.2) (fun a ha => ?_)⟩
  subst ha
  exact h.lt _ (by
    obtain ⟨xs, hx, _⟩ := h.own.own
    rcases hx.2 with ⟨h1, _⟩ | ⟨g, cap, cur, h1, _⟩
    · simp at h1
    · simp only [Value.slice.injEq] at h1
      obtain ⟨h2, -, -⟩ := h1
      cases h2
      rfl)
theorem Grew.only {b : Nat} {x : World} (hg : Grew lab lab' i w w') (ho : Only b x w) (hlo : ∀ k, k < x.heap.size → lab k ≠ i) : Only b x w' :=
  ⟨hg.os.trans ho.os, hg.tape.trans ho.tape, hg.output.trans ho.output, Nat.le_trans ho.size hg.size, fun k hk hne => (hg.keep k (Nat.lt_of_lt_of_le hk ho.size) (hlo k hk)).trans (ho.block k hk hne)⟩
end

/-- What an append of one thing, out of a block of its own, leaves. -/
theorem grew_one {w : World} {α : Type} {ρ : Rep α} {x : α} {cs : List Value} {e : TypeId} {lab : Nat → Nat} {m : Nat} (hm : m ≠ 0) {lo : Nat} {v : Value} {l : List α} (hown : OL ρ e lab m w lo v l) (hfr : Fresh lab w) (hbase : lo ≤ w.heap.size) {v' : Value} {w' : World}
    (q1 : ∀ Z', (∀ k, Zl lab lo w k → Z' k) → (∀ k, Zl lab lo w k ∨ k = w.heap.size → Z' k) → OwnL ρ e w' lo Z' v' (l ++ [x])) (q2 : (w.alloc (.cells cs.toArray e)).grownBy w' v.ownBlock) (q3 : v'.ownBlock = v.ownBlock ∨ v'.ownBlock = some (w.alloc (.cells cs.toArray e)).heap.size) :
    ∃ lab', OL ρ e lab' m w' lo v' (l ++ [x]) ∧ Grew lab lab' m w w' := by
  have hlt := hown.lt
  have hb : Below w.heap.size w (w.alloc (.cells cs.toArray e)) := (Below.refl _ _).alloc (Nat.le_refl _) _
  have hmark : ∀ k, v.ownBlock = some k → lab k = m := hown.mark
  have hz2 : w.heap.size + 1 ≤ w'.heap.size := by have := q2.size; simpa using this
  have hv' : ∀ k, v'.ownBlock = some k → (v.ownBlock = some k ∧ k < w.heap.size) ∨ k = w.heap.size + 1 := by
    intro k hk
    rcases q3 with q3 | q3
    · rw [q3] at hk; exact .inl ⟨hk, (hlt k hk).2⟩
    · rw [q3] at hk; simp at hk; exact .inr hk.symm
  have q1' := q1 (fun k => (Zl lab lo w k ∨ k = w.heap.size)) (fun k hk => .inl hk) (fun k hk => hk)
  have hlt' := q1'.lt
  refine ⟨fun k => if v'.ownBlock = some k then m else lab k, ⟨q1'.mono ?_, fun k hk => by simp [hk]⟩, ⟨q2.os, q2.tape, q2.output, by omega, fun k hk hne => ?_, fun k hk => ?_, fun k hk => ?_⟩⟩
  · rintro k (hk | rfl)
    · refine ⟨?_, hk.2.1, by have := hk.2.2; omega⟩
      dsimp only
      rw [if_neg]
      · exact hk.1
      · intro e
        rcases hv' k e with ⟨e1, _⟩ | e1
        · have := hmark k e1
          rw [hk.1] at this
          exact hm this.symm
        · have := hk.2.2; omega
    · refine ⟨?_, hbase, by omega⟩
      dsimp only
      rw [if_neg]
      · exact hfr _ (Nat.le_refl _)
      · intro e
        rcases hv' _ e with ⟨e1, e2⟩ | e1 <;> omega
  · refine (q2.block k (by simp; omega) fun e => hne (hmark k e.symm)).trans (hb.block k hk)
  · split
    · next e =>
      rcases hv' k e with ⟨e1, _⟩ | e1
      · exact (hmark k e1).symm
      · omega
    · rfl
  · rw [if_neg]
    · exact hfr k (by omega)
    · intro e
      have := (hlt' k e).2
      omega

/-- One thing more, out of a block of its own, at a step of a region that draws. -/
theorem step_append_o {P : Program} (w : World) {α : Type} (ρ : Rep α) (x : α) (cs : List Value) {ops : Array Oper} {o : Oper} {a : Act} {K : Act → World → Prop} {Q : Exit → Act → World → Prop} {E : Prop} (hgd : o.guard = none) (s y : Operand) (t : TypeId)
    (ho : o.op = .call { callee := .builtin .append, args := #[s, y], argTypes := #[t, t] }) (e : TypeId)
    (i : TypeInfo) (z : Value) (bytes : Nat) (ht : P.underlying t = some (.slice e)) (hi : P.info? e = some i) (hz : i.zero = some z) (hsize : i.size = ρ.sz) (hby : i.bytes = bytes) (hzc : z.cells.size = ρ.sz) (hsz : 0 < ρ.sz) (hb1 : bytes ≤ 200)
    (lab : Nat → Nat) (m : Nat) (hm : m ≠ 0) (lo : Nat) (v : Value) (l : List α) (hs : a.eval s = v) (hown : OL ρ e lab m w lo v l) (hfr : Fresh lab w) (hR : ρ.R w (Zl lab lo w) cs x)
    (g : Nat) (hgw : g = w.heap.size) (hx : a.eval y = .slice (some ⟨g, 0, none⟩) 1 1) (hlen : l.length ≤ 33554432) (hbase : lo ≤ w.heap.size)
    (h : ∀ v' w' lab', OL ρ e lab' m w' lo v' (l ++ [x]) → Grew lab lab' m w w' → K (a.put o.dst v') w') :
    if Region.wanted o (yielded ops a.tmps) = true then Oper.wp P o a (w.alloc (.cells cs.toArray e)) K Q else E := by
  subst hgw
  have hnew := heap_alloc_new w (.cells cs.toArray e)
  have hlt := hown.lt
  have hb : Below w.heap.size w (w.alloc (.cells cs.toArray e)) := (Below.refl _ _).alloc (Nat.le_refl _) _
  have h1 := hown.below hb
  have hR' := ρ.keep hR (w' := w.alloc (.cells cs.toArray e)) (Z' := fun k => (Zl lab lo w k ∨ k = w.heap.size)) (fun k hk => hb.block k hk.2.2) (fun k hk => .inl hk)
  have hle : (l.length + 1) * bytes ≤ 33554433 * 200 := Nat.mul_le_mul (by omega) hb1
  have hmark : ∀ k, v.ownBlock = some k → lab k = m := hown.mark
  refine step_append_l _ hgd s y t ho ρ e i z bytes ht hi hz hsize hby hzc hsz lo (Zl lab lo w) v l hs (hown.own.keep (fun k hk => hb.block k (hlt k hk).2) (fun k hk => hb.block k hk.2.2) (fun k hk => hk)) (fun k => Zl lab lo w k ∨ k = w.heap.size) _ 1 1 [x] hx (slc_temp hnew hR' (.inr rfl)) ?_ ?_ (by simp; omega) (by unfold maxLen; simp; omega) (by simp; omega) ?_
  · intro k hk
    refine ⟨by simp; exact Nat.lt_succ_of_lt hk.2.2, fun e => ?_⟩
    have := hmark k e
    rw [hk.1] at this
    exact hm this.symm
  · rintro k (hk | rfl)
    · refine ⟨by simp; exact Nat.lt_succ_of_lt hk.2.2, fun e => ?_⟩
      have := hmark k e
      rw [hk.1] at this
      exact hm this.symm
    · refine ⟨by simp, fun e => ?_⟩
      have := (hlt _ e).2
      omega
  · intro v' w' q1 q2 q3
    obtain ⟨lab', h1, h2⟩ := grew_one hm hown hfr hbase q1 q2 q3
    exact h v' w' lab' h1 h2
/-- The same in a row of operations. -/
theorem wpList_append_o {P : Program} (w : World) {α : Type} (ρ : Rep α) (x : α) (cs : List Value) {ops : Array Oper} {rest : List Oper} {o : Oper} {a : Act} {Q : Exit → Act → World → Prop} (hgd : o.guard = none) (s y : Operand) (t : TypeId)
    (ho : o.op = .call { callee := .builtin .append, args := #[s, y], argTypes := #[t, t] }) (e : TypeId)
    (i : TypeInfo) (z : Value) (bytes : Nat) (ht : P.underlying t = some (.slice e)) (hi : P.info? e = some i) (hz : i.zero = some z) (hsize : i.size = ρ.sz) (hby : i.bytes = bytes) (hzc : z.cells.size = ρ.sz) (hsz : 0 < ρ.sz) (hb1 : bytes ≤ 200)
    (lab : Nat → Nat) (m : Nat) (hm : m ≠ 0) (lo : Nat) (v : Value) (l : List α) (hs : a.eval s = v) (hown : OL ρ e lab m w lo v l) (hfr : Fresh lab w) (hR : ρ.R w (Zl lab lo w) cs x)
    (g : Nat) (hgw : g = w.heap.size) (hx : a.eval y = .slice (some ⟨g, 0, none⟩) 1 1) (hlen : l.length ≤ 33554432) (hbase : lo ≤ w.heap.size)
    (h : ∀ v' w' lab', OL ρ e lab' m w' lo v' (l ++ [x]) → Grew lab lab' m w w' → wpList P ops Q rest (a.put o.dst v') w') :
    wpList P ops Q (o :: rest) a (w.alloc (.cells cs.toArray e)) := by
  subst hgw
  have hnew := heap_alloc_new w (.cells cs.toArray e)
  have hlt := hown.lt
  have hb : Below w.heap.size w (w.alloc (.cells cs.toArray e)) := (Below.refl _ _).alloc (Nat.le_refl _) _
  have h1 := hown.below hb
  have hR' := ρ.keep hR (w' := w.alloc (.cells cs.toArray e)) (Z' := fun k => (Zl lab lo w k ∨ k = w.heap.size)) (fun k hk => hb.block k hk.2.2) (fun k hk => .inl hk)
  have hle : (l.length + 1) * bytes ≤ 33554433 * 200 := Nat.mul_le_mul (by omega) hb1
  have hmark : ∀ k, v.ownBlock = some k → lab k = m := hown.mark
  refine wpList_append_l _ hgd s y t ho ρ e i z bytes ht hi hz hsize hby hzc hsz lo (Zl lab lo w) v l hs (hown.own.keep (fun k hk => hb.block k (hlt k hk).2) (fun k hk => hb.block k hk.2.2) (fun k hk => hk)) (fun k => Zl lab lo w k ∨ k = w.heap.size) _ 1 1 [x] hx (slc_temp hnew hR' (.inr rfl)) ?_ ?_ (by simp; omega) (by unfold maxLen; simp; omega) (by simp; omega) ?_
  · intro k hk
    refine ⟨by simp; exact Nat.lt_succ_of_lt hk.2.2, fun e => ?_⟩
    have := hmark k e
    rw [hk.1] at this
    exact hm this.symm
  · rintro k (hk | rfl)
    · refine ⟨by simp; exact Nat.lt_succ_of_lt hk.2.2, fun e => ?_⟩
      have := hmark k e
      rw [hk.1] at this
      exact hm this.symm
    · refine ⟨by simp, fun e => ?_⟩
      have := (hlt _ e).2
      omega
  · intro v' w' q1 q2 q3
    obtain ⟨lab', h1, h2⟩ := grew_one hm hown hfr hbase q1 q2 q3
    exact h v' w' lab' h1 h2
end Go.Proofs.Ytkcnpnnflbibiaa

/- The walks: whether a graph has not too much; whether a node has not too much. -/
namespace Go.Proofs.Ytkcnpnnflbibiaa
open Go.RowKit

def fewB (a n n2 n3 n4 : Nat) : Bool := decide (a ≤ 100) && decide (n ≤ 1000) && decide (n2 + n4 + n ≤ 3000) && decide (n3 ≤ 3000)
set_option maxRecDepth 100000 in
set_option maxHeartbeats 1600000 in
theorem few_any (name : ByteArray) (A A2 A3 A4 : Option Addr) (n c n2 c2 n3 c3 n4 c4 : Nat) (w : World) (h : n2 + n4 + n ≤ 9223372036854775807) :
    Calls Try.prog 56 #[.agg #[.string name, .slice A n c, .slice A2 n2 c2, .slice A3 n3 c3, .slice A4 n4 c4]] w fun e w' => e = .returned (.bool (fewB name.size n n2 n3 n4)) ∧ Below w.heap.size w w' := by
  have hb : Below w.heap.size w (w.alloc (.cells #[.string name, .slice A n c, .slice A2 n2 c2, .slice A3 n3 c3, .slice A4 n4 c4] 34)) := (Below.refl _ _).alloc (Nat.le_refl _) _
  have Hb := Lib.hid hb
  clear hb
  by_cases h1 : name.size ≤ 100
  · by_cases h2 : n ≤ 1000
    · by_cases h3 : n2 + n4 + n ≤ 3000
      · by_cases h4 : n3 ≤ 3000
        · have Hr := Lib.hid (show fewB name.size n n2 n3 n4 = true by simp [fewB, h1, h2, h3, h4])
          go_enter Try.func56, Try.ntmps56
          go_wp2
          go_ret
          exact ⟨boo_ret (by rw [Hr.out]; simp; omega), Hb.out⟩
        · have Hr := Lib.hid (show fewB name.size n n2 n3 n4 = false by simp [fewB, h4])
          go_enter Try.func56, Try.ntmps56
          go_wp2
          go_ret
          exact ⟨boo_ret (by rw [Hr.out]; simp; omega), Hb.out⟩
      · have Hr := Lib.hid (show fewB name.size n n2 n3 n4 = false by simp [fewB, h3])
        go_enter Try.func56, Try.ntmps56
        go_wp2
        go_ret
        exact ⟨boo_ret (by rw [Hr.out]), Hb.out⟩
    · have Hr := Lib.hid (show fewB name.size n n2 n3 n4 = false by simp [fewB, h2])
      go_enter Try.func56, Try.ntmps56
      go_wp2
      go_ret
      exact ⟨boo_ret (by rw [Hr.out]), Hb.out⟩
  · have Hr := Lib.hid (show fewB name.size n n2 n3 n4 = false by simp [fewB, h1])
    go_enter Try.func56, Try.ntmps56
    go_wp2
    go_ret
    exact ⟨boo_ret (by rw [Hr.out]), Hb.out⟩

/-- A text that is too long for a name. -/
theorem long_any (s : ByteArray) (w : World) : Calls Try.prog 80 #[.string s] w fun e w' => e = .returned (.bool (decide (100 < s.size))) ∧ w = w' := by
  go_enter Try.func80, Try.ntmps80
  go_wp2
  go_ret
  exact ⟨boo_ret (by simp; omega), rfl⟩
def AllShort (l : List ByteArray) : Prop := ∀ s ∈ l, s.size ≤ 100
instance (l : List ByteArray) : Decidable (AllShort l) := inferInstanceAs (Decidable (∀ s ∈ l, _))
def IdxS (l : List ByteArray) (w : World) (e : Ending) (w' : World) : Prop := ∃ i : Int, e = .returned (.int .i64 i) ∧ ((0 ≤ i ∧ ¬ AllShort l) ∨ (i < 0 ∧ AllShort l)) ∧ w = w'
set_option maxHeartbeats 800000 in
theorem idxS_any (w : World) (Z : Nat → Prop) (A : Option Addr) (n c : Nat) (l : List ByteArray) (h : Slc repStr w Z A n l) :
    Calls Try.prog 91 #[.slice A n c, .func (.func 80) #[] #[]] w (IdxS l w) := by
  have hm : n ≤ 9223372036854775807 := h.small
  have Hl := Lib.hid h.len
  go_enter Try.func91, Try.ntmps91
  go_wp2_with fail
  go_loop [5, 8] (fun _ i => ∃ k : Nat, k ≤ n ∧ i = .int .i64 k ∧ ∀ s ∈ l.take k, s.size ≤ 100) (fun _ i => n - (intOf i).toNat)
  case atStart => exact ⟨0, Nat.zero_le _, rfl, fun s hs => by simp at hs⟩
  case round =>
    obtain ⟨k, hk, rfl, hall⟩ := hrel
    have Hall := Lib.hid hall
    clear hall
    by_cases hlt : k < n
    · obtain ⟨b, off, x, cs, rfl, hb, hx, hr, hi⟩ := h.get hlt
      have hcs : cs = [.string x] := hr
      have h0 := hi 0 (by decide)
      rw [hcs] at h0
      have c0 : w.cell? ⟨b, off + k, none⟩ = some (.string x) := by simpa [repStr] using h0
      have Hx := Lib.hid hx
      clear hi h0 hr hcs hx
      by_cases hs : 100 < x.size
      · have hd : decide (100 < x.size) = true := by simpa using hs
        have HB := Lib.hid (long_any x w)
        rw [hd] at HB
        go_wp2_with fail
        refine HB.out.mono ?_
        rintro e w' ⟨rfl, rfl⟩
        go_wp2
        go_ret
        exact ⟨_, rfl, .inl ⟨by omega, fun hp => by have := hp x (List.mem_of_getElem? Hx.out); omega⟩, rfl⟩
      · have hd : decide (100 < x.size) = false := by simpa using hs
        have HB := Lib.hid (long_any x w)
        rw [hd] at HB
        go_wp2_with fail
        refine HB.out.mono ?_
        rintro e w' ⟨rfl, rfl⟩
        go_wp2
        go_round
        case rel => exact ⟨k + 1, by omega, by go_num, fun s hm => by
          rw [List.take_add_one, Hx.out] at hm
          rcases List.mem_append.1 hm with hm | hm
          · exact Hall.out s hm
          · simp at hm; subst hm; omega⟩
        case measure => simp [intOf]; omega
    · obtain rfl : k = n := by omega
      go_wp2
      go_ret
      exact ⟨_, rfl, .inr ⟨by omega, by have := Hall.out; rw [← Hl.out, List.take_length] at this; exact this⟩, rfl⟩
theorem hasS_any (w : World) (Z : Nat → Prop) (A : Option Addr) (n c : Nat) (l : List ByteArray) (h : Slc repStr w Z A n l) :
    Calls Try.prog 81 #[.slice A n c, .func (.func 80) #[] #[]] w fun e w' => e = .returned (.bool (!decide (AllShort l))) ∧ w = w' := by
  have HI := Lib.hid (idxS_any w Z A n c l h)
  go_enter Try.func81, Try.ntmps81
  go_wp2_with fail
  refine HI.out.mono ?_
  rintro e w' ⟨i, rfl, hi, rfl⟩
  have Hi := Lib.hid hi
  clear hi
  go_wp2
  go_ret
  refine ⟨boo_ret ?_, rfl⟩
  rcases Hi.out with ⟨h1, h2⟩ | ⟨h1, h2⟩
  · simp [h1, h2]
  · simp [h2]; omega

def shortB (op name out : Nat) (ins : List ByteArray) (m : Nat) : Bool := decide (name ≤ 100) && decide (op ≤ 100) && decide (out ≤ 100) && decide (AllShort ins) && decide (ins.length ≤ 20) && decide (m ≤ 20)
theorem long_is (s : ByteArray) (w : World) (b : Bool) (h : decide (100 < s.size) = b) : Calls Try.prog 80 #[.string s] w fun e w' => e = .returned (.bool b) ∧ w = w' := by rw [← h]; exact long_any s w
set_option maxRecDepth 100000 in
set_option maxHeartbeats 1600000 in
theorem short_any (op name out : ByteArray) (ins : List ByteArray) (A A2 : Option Addr) (n c m c2 : Nat) (w : World) (Z : Nat → Prop) (h : Slc repStr w Z A n ins) (hZ : ∀ k, Z k → k < w.heap.size) (hm : m ≤ maxLen) :
    Calls Try.prog 62 #[.agg #[.string op, .string name, .slice A n c, .string out, .slice A2 m c2]] w fun e w' => e = .returned (.bool (shortB op.size name.size out.size ins m)) ∧ Below w.heap.size w w' := by
  have hb : Below w.heap.size w (w.alloc (.cells #[.string op, .string name, .slice A n c, .string out, .slice A2 m c2] 67)) := (Below.refl _ _).alloc (Nat.le_refl _) _
  have hl := h.len
  have hn : n ≤ 9223372036854775807 := h.small
  have hm' : m ≤ 9223372036854775807 := hm
  have HS := Lib.hid (hasS_any (w.alloc (.cells #[.string op, .string name, .slice A n c, .string out, .slice A2 m c2] 67)) Z A n c ins (h.keep (fun k hk => hb.block k (hZ k hk)) (fun _ h => h)))
  have Hb := Lib.hid hb
  subst hl
  clear hb h hm
  by_cases h1 : name.size ≤ 100
  · have L1 := Lib.hid (fun w => long_is name w false (by simp; omega))
    by_cases h2 : op.size ≤ 100
    · have L2 := Lib.hid (fun w => long_is op w false (by simp; omega))
      by_cases h3 : out.size ≤ 100
      · have L3 := Lib.hid (fun w => long_is out w false (by simp; omega))
        by_cases h4 : AllShort ins
        · have e4 : decide (AllShort ins) = true := by simpa using h4
          rw [e4] at HS
          have Hr := Lib.hid (show shortB op.size name.size out.size ins m = (decide (ins.length ≤ 20) && decide (m ≤ 20)) by simp [shortB, h1, h2, h3, h4])
          clear h4 e4
          go_enter Try.func62, Try.ntmps62
          go_wp2_with fail
          refine (L1.out _).mono ?_
          rintro e w3 ⟨rfl, rfl⟩
          go_wp2_with fail
          refine (L2.out _).mono ?_
          rintro e w3 ⟨rfl, rfl⟩
          go_wp2_with fail
          refine (L3.out _).mono ?_
          rintro e w3 ⟨rfl, rfl⟩
          go_wp2_with fail
          refine HS.out.mono ?_
          rintro e w3 ⟨rfl, rfl⟩
          by_cases h5 : ins.length ≤ 20
          · go_wp2
            all_goals
              go_ret
              refine ⟨boo_ret ?_, Hb.out⟩
              rw [Hr.out]
              first | (simp [h5]; done) | (simp [h5]; omega) | (have h6 : ¬ ins.length ≤ 20 := by omega
                                                                simp [h6])
          · go_wp2
            all_goals
              go_ret
              refine ⟨boo_ret ?_, Hb.out⟩
              rw [Hr.out]
              first | (simp [h5]; done) | (simp [h5]; omega) | (have h6 : ¬ ins.length ≤ 20 := by omega
                                                                simp [h6])
        · have e4 : decide (AllShort ins) = false := by simpa using h4
          rw [e4] at HS
          have Hr := Lib.hid (show shortB op.size name.size out.size ins m = false by simp [shortB, h4])
          clear h4 e4
          go_enter Try.func62, Try.ntmps62
          go_wp2_with fail
          refine (L1.out _).mono ?_
          rintro e w3 ⟨rfl, rfl⟩
          go_wp2_with fail
          refine (L2.out _).mono ?_
          rintro e w3 ⟨rfl, rfl⟩
          go_wp2_with fail
          refine (L3.out _).mono ?_
          rintro e w3 ⟨rfl, rfl⟩
          go_wp2_with fail
          refine HS.out.mono ?_
          rintro e w3 ⟨rfl, rfl⟩
          go_wp2
          go_ret
          exact ⟨boo_ret (by rw [Hr.out]), Hb.out⟩
      · have L3 := Lib.hid (fun w => long_is out w true (by simp; omega))
        have Hr := Lib.hid (show shortB op.size name.size out.size ins m = false by simp [shortB, h3])
        go_enter Try.func62, Try.ntmps62
        go_wp2_with fail
        refine (L1.out _).mono ?_
        rintro e w3 ⟨rfl, rfl⟩
        go_wp2_with fail
        refine (L2.out _).mono ?_
        rintro e w3 ⟨rfl, rfl⟩
        go_wp2_with fail
        refine (L3.out _).mono ?_
        rintro e w3 ⟨rfl, rfl⟩
        go_wp2
        go_ret
        exact ⟨boo_ret (by rw [Hr.out]), Hb.out⟩
    · have L2 := Lib.hid (fun w => long_is op w true (by simp; omega))
      have Hr := Lib.hid (show shortB op.size name.size out.size ins m = false by simp [shortB, h2])
      go_enter Try.func62, Try.ntmps62
      go_wp2_with fail
      refine (L1.out _).mono ?_
      rintro e w3 ⟨rfl, rfl⟩
      go_wp2_with fail
      refine (L2.out _).mono ?_
      rintro e w3 ⟨rfl, rfl⟩
      go_wp2
      go_ret
      exact ⟨boo_ret (by rw [Hr.out]), Hb.out⟩
  · have L1 := Lib.hid (fun w => long_is name w true (by simp; omega))
    have Hr := Lib.hid (show shortB op.size name.size out.size ins m = false by simp [shortB, h1])
    go_enter Try.func62, Try.ntmps62
    go_wp2_with fail
    refine (L1.out _).mono ?_
    rintro e w3 ⟨rfl, rfl⟩
    go_wp2
    go_ret
    exact ⟨boo_ret (by rw [Hr.out]), Hb.out⟩
end Go.Proofs.Ytkcnpnnflbibiaa
