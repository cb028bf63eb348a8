/- A node read: plain; what the loop keeps. -/
import Derived.Test.YtkcnpnnflbibiaaZo
import Derived.Test.YtkcnpnnflbibiaaCb
set_option linter.unusedVariables false
namespace Go.Proofs.Ytkcnpnnflbibiaa
open Go.RowKit

theorem Try.info9 : (Try.prog.info? 9).map (fun i => (i.zero, i.size, i.bytes)) = some (some (.string ⟨#[]⟩), 1, 16) := by kernel_rfl
theorem Try.info88 : (Try.prog.info? 88).map (fun i => (i.zero, i.size, i.bytes)) = some (some (.agg #[.string ⟨#[]⟩, .int .i64 0, .int .i64 0, .int .i64 0, .string ⟨#[]⟩, .int .i64 0, .slice none 0 0, .slice none 0 0, .slice none 0 0]), 9, 136) := by kernel_rfl
theorem Try.info81 : (Try.prog.info? 81).map (fun i => (i.zero, i.size, i.bytes)) = some (some (.agg #[.string ⟨#[]⟩, .int .i64 0, .slice none 0 0]), 3, 48) := by kernel_rfl
theorem Try.info69 : (Try.prog.info? 69).map (fun i => (i.zero, i.size, i.bytes)) = some (some (.agg #[.string ⟨#[]⟩, .int .i64 0, .slice none 0 0, .slice none 0 0]), 4, 72) := by kernel_rfl
theorem Try.info67 : (Try.prog.info? 67).map (fun i => (i.zero, i.size, i.bytes)) = some (some (.agg #[.string ⟨#[]⟩, .string ⟨#[]⟩, .slice none 0 0, .string ⟨#[]⟩, .slice none 0 0]), 5, 96) := by kernel_rfl

structure NAcc where
  op : ByteArray
  name : ByteArray
  ins : List ByteArray
  outs : List ByteArray
  attrs : List At
  domain : ByteArray
def NAcc.none : NAcc := ⟨⟨#[]⟩, ⟨#[]⟩, [], [], [], ⟨#[]⟩⟩
def nStep (a : NAcc) (f : Fd) : Except Int NAcc :=
  if f.num = 1 then (if f.kind = 2 then .ok { a with ins := a.ins ++ [f.b] } else .error 3)
  else if f.num = 2 then (if f.kind = 2 then .ok { a with outs := a.outs ++ [f.b] } else .error 3)
  else if f.num = 3 then (if f.kind = 2 then .ok { a with name := f.b } else .error 3)
  else if f.num = 4 then (if f.kind = 2 then .ok { a with op := f.b } else .error 3)
  else if f.num = 5 then (if f.kind = 2 then (match attrE f.b with | .error e => .error e | .ok x => .ok { a with attrs := a.attrs ++ [x] }) else .error 3)
  else if f.num = 7 then (if f.kind = 2 then .ok { a with domain := f.b } else .error 3)
  else .ok a
def aionnx : ByteArray := ⟨#[97, 105, 46, 111, 110, 110, 120]⟩
def nEnd (a : NAcc) : Except Int Nd :=
  match a.outs with
  | [o] => if a.domain = ⟨#[]⟩ ∨ a.domain = aionnx then
      (if shortB a.op.size a.name.size o.size a.ins a.attrs.length then .ok ⟨a.op, a.name, a.ins, o, a.attrs⟩ else .error 6) else .error 5
  | _ => .error 5
theorem nEnd_len {a : NAcc} (h : ¬ a.outs.length = 1) : nEnd a = .error 5 := by
  unfold nEnd
  split
  · next hh => rw [hh] at h; simp at h
  · rfl
theorem nEnd_dom {a : NAcc} (h : ¬ (a.domain = ⟨#[]⟩ ∨ a.domain = aionnx)) : nEnd a = .error 5 := by
  unfold nEnd
  split
  · rw [if_neg h]
  · rfl
def nodeE (s : ByteArray) : Except Int Nd :=
  match fldsE s with
  | .error e => .error e
  | .ok l => match runF nStep .none l with
    | .error e => .error e
    | .ok a => nEnd a
/-- What node leaves. -/
def NodeIs (s : ByteArray) (w : World) (e : Ending) (w' : World) : Prop :=
  Below w.heap.size w w' ∧ ((∃ t cs, nodeE s = .ok t ∧ e = .returned (.agg cs.toArray) ∧ repNd.R w' (fun k => w.heap.size ≤ k ∧ k < w'.heap.size) cs t) ∨ (∃ err, nodeE s = .error err ∧ e = .panicked (refu err)))
theorem node_no {s : ByteArray} {w w' : World} {err : Int} (hb : Below w.heap.size w w') (h : nodeE s = .error err) : NodeIs s w (.panicked (refu err)) w' := ⟨hb, .inr ⟨err, h, rfl⟩⟩
theorem nodeE_bad {s : ByteArray} {l : List Fd} (hl : fldsE s = .ok l) {k : Nat} {f : Fd} (hf : l[k]? = some f) {a : NAcc} (ha : runF nStep .none (l.take k) = .ok a) {e : Int} (hs : nStep a f = .error e) : nodeE s = .error e := by
  unfold nodeE
  rw [hl]
  simp only []
  rw [runF_bad nStep .none l k f hf a ha e hs]
theorem n_lens : ∀ l (a b : NAcc), runF nStep a l = .ok b → b.ins.length ≤ a.ins.length + wt l ∧ b.outs.length ≤ a.outs.length + wt l ∧ b.attrs.length ≤ a.attrs.length + wt l := by
  intro l
  induction l with
  | nil => intro a b h; cases h; simp [wt]
  | cons f l ih =>
    intro a b h
    simp only [runF] at h
    cases hs : nStep a f with
    | error e => rw [hs] at h; cases h
    | ok c =>
      rw [hs] at h
      have h1 := ih c b h
      have h2 : c.ins.length ≤ a.ins.length + 1 ∧ c.outs.length ≤ a.outs.length + 1 ∧ c.attrs.length ≤ a.attrs.length + 1 := by
        unfold nStep at hs
        split at hs
        · split at hs <;> cases hs; simp
        split at hs
        · split at hs <;> cases hs; simp
        split at hs
        · split at hs <;> cases hs; simp
        split at hs
        · split at hs <;> cases hs; simp
        split at hs
        · split at hs
          · split at hs <;> cases hs; simp
          · cases hs
        split at hs
        · split at hs <;> cases hs; simp
        · cases hs; simp
      simp only [wt]; omega

/-- While a node is read. -/
structure NInv (w1 wr : World) (gn : Nat) (a : NAcc) (vi vo va : Value) (lab : Nat → Nat) : Prop where
  lt : gn < w1.heap.size
  only : Only gn w1 wr
  t : wr.heap[gn]? = some (.cells #[.string a.op, .string a.name, vi, .string ⟨#[]⟩, va] 67 (0, 0))
  oi : OL repStr 9 lab 1 wr w1.heap.size vi a.ins
  oo : OL repStr 9 lab 2 wr w1.heap.size vo a.outs
  oa : OL repAt 88 lab 3 wr w1.heap.size va a.attrs
  fr : Fresh lab wr
  low : ∀ k, k < w1.heap.size → lab k = 0
section
variable {w1 wr w' : World} {gn : Nat} {a a' : NAcc} {vi vo va v' : Value} {lab lab' : Nat → Nat} {x : ByteArray} {y : At}
theorem NInv.below (h : NInv w1 wr gn a vi vo va lab) (hb : Below wr.heap.size wr w') : NInv w1 w' gn a vi vo va lab :=
  ⟨h.lt, only_below h.only hb, (hb.block gn (Nat.lt_of_lt_of_le h.lt h.only.size)).trans h.t, h.oi.below hb, h.oo.below hb, h.oa.below hb, h.fr.more hb.size, h.low⟩
theorem NInv.alloc (h : NInv w1 wr gn a vi vo va lab) (o : Obj) : NInv w1 (wr.alloc o) gn a vi vo va lab := h.below ((Below.refl _ _).alloc (Nat.le_refl _) o)
theorem NInv.lab_low (h : NInv w1 wr gn a vi vo va lab) {i : Nat} (hg : Grew lab lab' i wr w') : ∀ k, k < w1.heap.size → lab' k = 0 := fun k hk => (hg.lab k (Nat.lt_of_lt_of_le hk h.only.size)).trans (h.low k hk)
theorem NInv.t_grown (h : NInv w1 wr gn a vi vo va lab) {i : Nat} (hi : i ≠ 0) (hg : Grew lab lab' i wr w') : w'.heap[gn]? = some (.cells #[.string a.op, .string a.name, vi, .string ⟨#[]⟩, va] 67 (0, 0)) :=
  (hg.keep gn (Nat.lt_of_lt_of_le h.lt h.only.size) (by rw [h.low gn h.lt]; exact fun e => hi e.symm)).trans h.t
theorem NInv.only_grown (h : NInv w1 wr gn a vi vo va lab) {i : Nat} (hi : i ≠ 0) (hg : Grew lab lab' i wr w') : Only gn w1 w' :=
  hg.only h.only fun k hk => by rw [h.low k hk]; exact fun e => hi e.symm
theorem NInv.moreI (h : NInv w1 wr gn a vi vo va lab) (hg : Grew lab lab' 1 wr w') (ho : OL repStr 9 lab' 1 w' w1.heap.size v' (a.ins ++ [x])) : NInv w1 (w'.setCell ⟨gn, 2, none⟩ v') gn { a with ins := a.ins ++ [x] } v' vo va lab' := by
  refine ⟨h.lt, (h.only_grown (by decide) hg).set_ _ _, ?_, ho.set_far (by exact h.lt) _, (h.oo.other hg (by decide) (by decide)).set_far (by exact h.lt) _, (h.oa.other hg (by decide) (by decide)).set_far (by exact h.lt) _, fun k hk => hg.fresh k (by simpa [World.setCell] using hk), h.lab_low hg⟩
  have := heap_setCell_same w' gn 2 _ 67 v' (h.t_grown (by decide) hg)
  simpa using this
theorem NInv.moreO (h : NInv w1 wr gn a vi vo va lab) (hg : Grew lab lab' 2 wr w') (ho : OL repStr 9 lab' 2 w' w1.heap.size v' (a.outs ++ [x])) : NInv w1 w' gn { a with outs := a.outs ++ [x] } vi v' va lab' :=
  ⟨h.lt, h.only_grown (by decide) hg, h.t_grown (by decide) hg, h.oi.other hg (by decide) (by decide), ho, h.oa.other hg (by decide) (by decide), hg.fresh, h.lab_low hg⟩
theorem NInv.moreA (h : NInv w1 wr gn a vi vo va lab) (hg : Grew lab lab' 3 wr w') (ho : OL repAt 88 lab' 3 w' w1.heap.size v' (a.attrs ++ [y])) : NInv w1 (w'.setCell ⟨gn, 4, none⟩ v') gn { a with attrs := a.attrs ++ [y] } vi vo v' lab' := by
  refine ⟨h.lt, (h.only_grown (by decide) hg).set_ _ _, ?_, (h.oi.other hg (by decide) (by decide)).set_far (by exact h.lt) _, (h.oo.other hg (by decide) (by decide)).set_far (by exact h.lt) _, ho.set_far (by exact h.lt) _, fun k hk => hg.fresh k (by simpa [World.setCell] using hk), h.lab_low hg⟩
  have := heap_setCell_same w' gn 4 _ 67 v' (h.t_grown (by decide) hg)
  simpa using this
theorem NInv.set_ (h : NInv w1 wr gn a vi vo va lab) (a' : NAcc) (i : Nat) (u : Value) (e1 : a'.ins = a.ins) (e2 : a'.outs = a.outs) (e3 : a'.attrs = a.attrs)
    (ht : (#[Value.string a.op, .string a.name, vi, .string ⟨#[]⟩, va] : Array Value).setIfInBounds i u = #[.string a'.op, .string a'.name, vi, .string ⟨#[]⟩, va]) : NInv w1 (wr.setCell ⟨gn, i, none⟩ u) gn a' vi vo va lab :=
  ⟨h.lt, h.only.set_ _ _, by rw [heap_setCell_same wr gn i _ 67 u h.t, ht], by rw [e1]; exact h.oi.set_far (by exact h.lt) _, by rw [e2]; exact h.oo.set_far (by exact h.lt) _, by rw [e3]; exact h.oa.set_far (by exact h.lt) _, fun k hk => h.fr k (by simpa [World.setCell] using hk), h.low⟩
theorem NInv.set_no (h : NInv w1 wr gn a vi vo va lab) (a' : NAcc) (e1 : a'.ins = a.ins) (e2 : a'.outs = a.outs) (e3 : a'.attrs = a.attrs) (e4 : a'.op = a.op) (e5 : a'.name = a.name) : NInv w1 wr gn a' vi vo va lab :=
  ⟨h.lt, h.only, by rw [e4, e5]; exact h.t, by rw [e1]; exact h.oi, by rw [e2]; exact h.oo, by rw [e3]; exact h.oa, h.fr, h.low⟩
theorem NInv.fin (h : NInv w1 wr gn a vi vo va lab) (o : ByteArray) : (wr.setCell ⟨gn, 3, none⟩ (.string o)).heap[gn]? = some (.cells #[.string a.op, .string a.name, vi, .string o, va] 67 (0, 0)) ∧ Only gn w1 (wr.setCell ⟨gn, 3, none⟩ (.string o)) ∧
    repNd.R (wr.setCell ⟨gn, 3, none⟩ (.string o)) (fun k => w1.heap.size ≤ k ∧ k < (wr.setCell ⟨gn, 3, none⟩ (.string o)).heap.size) [.string a.op, .string a.name, vi, .string o, va] ⟨a.op, a.name, a.ins, o, a.attrs⟩ := by
  refine ⟨?_, h.only.set_ _ _, vi, va, rfl, (h.oi.set_far (a := ⟨gn, 3, none⟩) (by exact h.lt) (.string o)).isSlc (by decide), (h.oa.set_far (a := ⟨gn, 3, none⟩) (by exact h.lt) (.string o)).isSlc (by decide)⟩
  have := heap_setCell_same wr gn 3 _ 67 (.string o) h.t
  simpa using this
end
/-- A thing of an own list, read. -/
theorem OL.get {α : Type} {ρ : Rep α} {e : TypeId} {lab : Nat → Nat} {i : Nat} {w : World} {lo : Nat} {A : Option Addr} {n c : Nat} {l : List α} (h : OL ρ e lab i w lo (.slice A n c) l) (hn : n = l.length) {k : Nat} {x : α} (hk : l[k]? = some x) :
    ∃ g cs, A = some ⟨g, 0, none⟩ ∧ lo ≤ g ∧ g < w.heap.size ∧ ρ.R w (Zl lab lo w) cs x ∧ ∀ j, j < ρ.sz → w.cell? ⟨g, k * ρ.sz + j, none⟩ = cs[j]? := by
  subst hn
  obtain ⟨xs, hx, hr⟩ := h.own.own
  obtain ⟨cs, h1, h2⟩ := hr k x hk
  have hlt : k < l.length := by
    rcases Nat.lt_or_ge k l.length with h | h
    · exact h
    · rw [List.getElem?_eq_none h] at hk; cases hk
  obtain ⟨g, cap, e1, hlo, hg⟩ := hx.form (by omega)
  simp only [Value.slice.injEq] at e1
  obtain ⟨rfl, -, -⟩ := e1
  refine ⟨g, cs, rfl, hlo, hg, h1, fun j hj => ?_⟩
  have hlt2 : k * ρ.sz + j < l.length * ρ.sz := by
    have : (k + 1) * ρ.sz ≤ l.length * ρ.sz := Nat.mul_le_mul_right _ hlt
    rw [Nat.add_mul] at this
    omega
  rw [hx.cellAt _ hlt2]
  exact h2 j hj
theorem text_nil {b : ByteArray} (h : b.toList = []) : b = ⟨#[]⟩ := by
  rw [ByteArray.toList_eq] at h
  apply ByteArray.ext
  apply Array.toList_inj.1
  exact h
theorem text_is {b : ByteArray} {l : List UInt8} (h : b.toList = l) : b = ⟨l.toArray⟩ := by
  rw [ByteArray.toList_eq] at h
  apply ByteArray.ext
  apply Array.toList_inj.1
  simpa using h
theorem text_to (l : List UInt8) : (⟨l.toArray⟩ : ByteArray).toList = l := by rw [ByteArray.toList_eq]
/-- The rep of one thing that a call has made, while lists with marks are kept. -/
theorem rep_made {α : Type} {ρ : Rep α} {w w' : World} {lab : Nat → Nat} {lo : Nat} {cs : List Value} {x : α} (hR : ρ.R w' (fun k => w.heap.size ≤ k ∧ k < w'.heap.size) cs x) (hfr : Fresh lab w) (hlo : lo ≤ w.heap.size) : ρ.R w' (Zl lab lo w') cs x :=
  ρ.keep hR (fun _ _ => rfl) fun k hk => ⟨hfr k hk.1, by omega, hk.2⟩
end Go.Proofs.Ytkcnpnnflbibiaa
