/- A graph read: plain; what the loop keeps. -/
import Derived.Test.YtkcnpnnflbibiaaDb
set_option linter.unusedVariables false
namespace Go.Proofs.Ytkcnpnnflbibiaa
open Go.RowKit

def gNone : Gr := ⟨⟨#[]⟩, [], [], [], []⟩
def gStep (a : Gr) (f : Fd) : Except Int Gr :=
  if f.num = 1 then (if f.kind = 2 then (match nodeE f.b with | .error e => .error e | .ok x => .ok { a with nodes := a.nodes ++ [x] }) else .error 3)
  else if f.num = 2 then (if f.kind = 2 then .ok { a with name := f.b } else .error 3)
  else if f.num = 5 then (if f.kind = 2 then (match tensorE f.b with | .error e => .error e | .ok x => .ok { a with inits := a.inits ++ [x] }) else .error 3)
  else if f.num = 11 then (if f.kind = 2 then (match valueE f.b with | .error e => .error e | .ok x => .ok { a with ins := a.ins ++ [x] }) else .error 3)
  else if f.num = 12 then (if f.kind = 2 then (match valueE f.b with | .error e => .error e | .ok x => .ok { a with outs := a.outs ++ [x] }) else .error 3)
  else .ok a
def fewG (a : Gr) : Bool := fewB a.name.size a.nodes.length a.ins.length a.outs.length a.inits.length
def gEnd (a : Gr) : Except Int Gr := if fewG a then .ok a else .error 6
def graphE (s : ByteArray) : Except Int Gr :=
  match fldsE s with
  | .error e => .error e
  | .ok l => match runF gStep gNone l with
    | .error e => .error e
    | .ok a => gEnd a
/-- What graph leaves. -/
def GraphIs (s : ByteArray) (w : World) (e : Ending) (w' : World) : Prop :=
  Below w.heap.size w w' ∧ ((∃ t cs, graphE s = .ok t ∧ e = .returned (.agg cs.toArray) ∧ repGr.R w' (fun k => w.heap.size ≤ k ∧ k < w'.heap.size) cs t) ∨ (∃ err, graphE s = .error err ∧ e = .panicked (refu err)))
theorem graph_no {s : ByteArray} {w w' : World} {err : Int} (hb : Below w.heap.size w w') (h : graphE s = .error err) : GraphIs s w (.panicked (refu err)) w' := ⟨hb, .inr ⟨err, h, rfl⟩⟩
theorem graphE_bad {s : ByteArray} {l : List Fd} (hl : fldsE s = .ok l) {k : Nat} {f : Fd} (hf : l[k]? = some f) {a : Gr} (ha : runF gStep gNone (l.take k) = .ok a) {e : Int} (hs : gStep a f = .error e) : graphE s = .error e := by
  unfold graphE
  rw [hl]
  simp only []
  rw [runF_bad gStep gNone l k f hf a ha e hs]
theorem g_lens : ∀ l (a b : Gr), runF gStep a l = .ok b → b.nodes.length ≤ a.nodes.length + wt l ∧ b.ins.length ≤ a.ins.length + wt l ∧ b.outs.length ≤ a.outs.length + wt l ∧ b.inits.length ≤ a.inits.length + wt l := by
  intro l
  induction l with
  | nil => intro a b h; cases h; simp [wt]
  | cons f l ih =>
    intro a b h
    simp only [runF] at h
    cases hs : gStep a f with
    | error e => rw [hs] at h; cases h
    | ok c =>
      rw [hs] at h
      have h1 := ih c b h
      have h2 : c.nodes.length ≤ a.nodes.length + 1 ∧ c.ins.length ≤ a.ins.length + 1 ∧ c.outs.length ≤ a.outs.length + 1 ∧ c.inits.length ≤ a.inits.length + 1 := by
        unfold gStep at hs
        split at hs
        · split at hs
          · split at hs <;> cases hs; simp
          · cases hs
        split at hs
        · split at hs <;> cases hs; simp
        split at hs
        · split at hs
          · split at hs <;> cases hs; simp
          · cases hs
        split at hs
        · split at hs
          · split at hs <;> cases hs; simp
          · cases hs
        split at hs
        · split at hs
          · split at hs <;> cases hs; simp
          · cases hs
        · cases hs; simp
      simp only [wt]; omega

/-- While a graph is read. -/
structure GInv (w1 wr : World) (gn : Nat) (a : Gr) (vn vi vo vt : Value) (lab : Nat → Nat) : Prop where
  lt : gn < w1.heap.size
  only : Only gn w1 wr
  t : wr.heap[gn]? = some (.cells #[.string a.name, vn, vi, vo, vt] 34 (0, 0))
  on : OL repNd 67 lab 1 wr w1.heap.size vn a.nodes
  oi : OL repVl 81 lab 2 wr w1.heap.size vi a.ins
  oo : OL repVl 81 lab 3 wr w1.heap.size vo a.outs
  ot : OL repNm 69 lab 4 wr w1.heap.size vt a.inits
  fr : Fresh lab wr
  low : ∀ k, k < w1.heap.size → lab k = 0
section
variable {w1 wr w' : World} {gn : Nat} {a : Gr} {vn vi vo vt v' : Value} {lab lab' : Nat → Nat} {x : Nd} {y : Vl} {z : Nm}
theorem GInv.below (h : GInv w1 wr gn a vn vi vo vt lab) (hb : Below wr.heap.size wr w') : GInv w1 w' gn a vn vi vo vt lab :=
  ⟨h.lt, only_below h.only hb, (hb.block gn (Nat.lt_of_lt_of_le h.lt h.only.size)).trans h.t, h.on.below hb, h.oi.below hb, h.oo.below hb, h.ot.below hb, h.fr.more hb.size, h.low⟩
theorem GInv.alloc (h : GInv w1 wr gn a vn vi vo vt lab) (o : Obj) : GInv w1 (wr.alloc o) gn a vn vi vo vt lab := h.below ((Below.refl _ _).alloc (Nat.le_refl _) o)
theorem GInv.lab_low (h : GInv w1 wr gn a vn vi vo vt lab) {i : Nat} (hg : Grew lab lab' i wr w') : ∀ k, k < w1.heap.size → lab' k = 0 := fun k hk => (hg.lab k (Nat.lt_of_lt_of_le hk h.only.size)).trans (h.low k hk)
theorem GInv.t_grown (h : GInv w1 wr gn a vn vi vo vt lab) {i : Nat} (hi : i ≠ 0) (hg : Grew lab lab' i wr w') : w'.heap[gn]? = some (.cells #[.string a.name, vn, vi, vo, vt] 34 (0, 0)) :=
  (hg.keep gn (Nat.lt_of_lt_of_le h.lt h.only.size) (by rw [h.low gn h.lt]; exact fun e => hi e.symm)).trans h.t
theorem GInv.only_grown (h : GInv w1 wr gn a vn vi vo vt lab) {i : Nat} (hi : i ≠ 0) (hg : Grew lab lab' i wr w') : Only gn w1 w' :=
  hg.only h.only fun k hk => by rw [h.low k hk]; exact fun e => hi e.symm
theorem GInv.moreN (h : GInv w1 wr gn a vn vi vo vt lab) (hg : Grew lab lab' 1 wr w') (ho : OL repNd 67 lab' 1 w' w1.heap.size v' (a.nodes ++ [x])) : GInv w1 (w'.setCell ⟨gn, 1, none⟩ v') gn { a with nodes := a.nodes ++ [x] } v' vi vo vt lab' := by
  refine ⟨h.lt, (h.only_grown (by decide) hg).set_ _ _, ?_, ho.set_far (by exact h.lt) _, (h.oi.other hg (by decide) (by decide)).set_far (by exact h.lt) _, (h.oo.other hg (by decide) (by decide)).set_far (by exact h.lt) _, (h.ot.other hg (by decide) (by decide)).set_far (by exact h.lt) _, fun k hk => hg.fresh k (by simpa [World.setCell] using hk), h.lab_low hg⟩
  have := heap_setCell_same w' gn 1 _ 34 v' (h.t_grown (by decide) hg)
  simpa using this
theorem GInv.moreI (h : GInv w1 wr gn a vn vi vo vt lab) (hg : Grew lab lab' 2 wr w') (ho : OL repVl 81 lab' 2 w' w1.heap.size v' (a.ins ++ [y])) : GInv w1 (w'.setCell ⟨gn, 2, none⟩ v') gn { a with ins := a.ins ++ [y] } vn v' vo vt lab' := by
  refine ⟨h.lt, (h.only_grown (by decide) hg).set_ _ _, ?_, (h.on.other hg (by decide) (by decide)).set_far (by exact h.lt) _, ho.set_far (by exact h.lt) _, (h.oo.other hg (by decide) (by decide)).set_far (by exact h.lt) _, (h.ot.other hg (by decide) (by decide)).set_far (by exact h.lt) _, fun k hk => hg.fresh k (by simpa [World.setCell] using hk), h.lab_low hg⟩
  have := heap_setCell_same w' gn 2 _ 34 v' (h.t_grown (by decide) hg)
  simpa using this
theorem GInv.moreO (h : GInv w1 wr gn a vn vi vo vt lab) (hg : Grew lab lab' 3 wr w') (ho : OL repVl 81 lab' 3 w' w1.heap.size v' (a.outs ++ [y])) : GInv w1 (w'.setCell ⟨gn, 3, none⟩ v') gn { a with outs := a.outs ++ [y] } vn vi v' vt lab' := by
  refine ⟨h.lt, (h.only_grown (by decide) hg).set_ _ _, ?_, (h.on.other hg (by decide) (by decide)).set_far (by exact h.lt) _, (h.oi.other hg (by decide) (by decide)).set_far (by exact h.lt) _, ho.set_far (by exact h.lt) _, (h.ot.other hg (by decide) (by decide)).set_far (by exact h.lt) _, fun k hk => hg.fresh k (by simpa [World.setCell] using hk), h.lab_low hg⟩
  have := heap_setCell_same w' gn 3 _ 34 v' (h.t_grown (by decide) hg)
  simpa using this
theorem GInv.moreT (h : GInv w1 wr gn a vn vi vo vt lab) (hg : Grew lab lab' 4 wr w') (ho : OL repNm 69 lab' 4 w' w1.heap.size v' (a.inits ++ [z])) : GInv w1 (w'.setCell ⟨gn, 4, none⟩ v') gn { a with inits := a.inits ++ [z] } vn vi vo v' lab' := by
  refine ⟨h.lt, (h.only_grown (by decide) hg).set_ _ _, ?_, (h.on.other hg (by decide) (by decide)).set_far (by exact h.lt) _, (h.oi.other hg (by decide) (by decide)).set_far (by exact h.lt) _, (h.oo.other hg (by decide) (by decide)).set_far (by exact h.lt) _, ho.set_far (by exact h.lt) _, fun k hk => hg.fresh k (by simpa [World.setCell] using hk), h.lab_low hg⟩
  have := heap_setCell_same w' gn 4 _ 34 v' (h.t_grown (by decide) hg)
  simpa using this
theorem GInv.name_ (h : GInv w1 wr gn a vn vi vo vt lab) (b : ByteArray) : GInv w1 (wr.setCell ⟨gn, 0, none⟩ (.string b)) gn { a with name := b } vn vi vo vt lab :=
  ⟨h.lt, h.only.set_ _ _, by rw [heap_setCell_same wr gn 0 _ 34 _ h.t]; rfl, h.on.set_far (by exact h.lt) _, h.oi.set_far (by exact h.lt) _, h.oo.set_far (by exact h.lt) _, h.ot.set_far (by exact h.lt) _, fun k hk => h.fr k (by simpa [World.setCell] using hk), h.low⟩
theorem GInv.rep (h : GInv w1 wr gn a vn vi vo vt lab) : repGr.R wr (fun k => w1.heap.size ≤ k ∧ k < wr.heap.size) [.string a.name, vn, vi, vo, vt] a :=
  ⟨vn, vi, vo, vt, rfl, h.on.isSlc (by decide), h.oi.isSlc (by decide), h.oo.isSlc (by decide), h.ot.isSlc (by decide)⟩
end
end Go.Proofs.Ytkcnpnnflbibiaa
