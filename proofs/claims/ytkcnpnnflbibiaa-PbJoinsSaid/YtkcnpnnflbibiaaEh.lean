/- The walks: a graph written. -/
import Derived.Test.YtkcnpnnflbibiaaEg
import Derived.Test.YtkcnpnnflbibiaaEe
import Derived.Test.YtkcnpnnflbibiaaDf
set_option linter.unusedVariables false
namespace Go.Proofs.Ytkcnpnnflbibiaa
open Go.RowKit

def initB (t : Nm) : Except Int ByteArray := bytE (tenFds t.name t.t)
def graphFds (g : Gr) : Except Int (List Fd) :=
  match mapE nodeB 1 g.nodes with
  | .error e => .error e
  | .ok m1 => match mapE initB 5 g.inits with
    | .error e => .error e
    | .ok m2 => match mapE valueB 11 g.ins with
      | .error e => .error e
      | .ok m3 => match mapE valueB 12 g.outs with
        | .error e => .error e
        | .ok m4 => .ok ((((m1 ++ [⟨2, 2, 0, g.name⟩]) ++ m2) ++ m3) ++ m4)
def modelB (b : ByteArray) : Except Int ByteArray :=
  match bytE [⟨2, 0, 13, ⟨#[]⟩⟩] with
  | .error e => .error e
  | .ok o => bytE [⟨1, 0, 8, ⟨#[]⟩⟩, ⟨7, 2, 0, b⟩, ⟨8, 2, 0, o⟩]
def encodeE (g : Gr) : Except Int ByteArray :=
  if toldB g = false then .error 1 else
  match graphFds g with
  | .error e => .error e
  | .ok l => match bytE l with
    | .error e => .error e
    | .ok b => modelB b
def encS (g : Gr) : ByteArray := match encodeE g with | .ok b => b | .error _ => ⟨#[]⟩
def encErr (g : Gr) : Int := match encodeE g with | .ok _ => 0 | .error e => e
/-- What Encode leaves. -/
def EncIs (g : Gr) (w : World) (e : Ending) (w' : World) : Prop := e = .returned (.tuple #[.string (encS g), .int .i64 (encErr g)]) ∧ Below w.heap.size w w'
theorem nodeB_size (a : Nd) (b : ByteArray) (h : nodeB a = .ok b) : b.size ≤ 16777216 := by
  unfold nodeB at h
  split at h
  · cases h
  · exact (bytE_size h).1
theorem initB_size (a : Nm) (b : ByteArray) (h : initB a = .ok b) : b.size ≤ 16777216 := (bytE_size h).1
theorem valueB_size (a : Vl) (b : ByteArray) (h : valueB a = .ok b) : b.size ≤ 16777216 := by
  unfold valueB at h
  split at h
  · cases h
  · split at h
    · cases h
    · unfold valB1 at h
      split at h
      · cases h
      · split at h
        · cases h
        · exact (bytE_size h).1
theorem errC_0 {l : List Int} (h : errC l = 0) : l.length ≤ 6 ∧ prod l ≤ 65536 ∧ Pos l := by
  unfold errC at h
  split at h
  · cases h
  · next h1 =>
    split at h
    · cases h
    · split at h
      · cases h
      · refine ⟨by omega, by omega, ?_⟩
        have := any_lt_iff l
        apply Classical.byContradiction
        intro h2
        exact h1 (this.2 h2)
theorem tchk_0 {t : Tn} (h : tchk t = 0) : typd t.typ = true ∧ errC t.dims = 0 ∧ (t.data.length : Int) = prod t.dims ∧ AllChk t.typ t.data := by
  unfold tchk at h
  split at h
  · cases h
  · next h1 =>
    split at h
    · next h2 => exact absurd h h2
    · next h2 =>
      split at h
      · cases h
      · next h3 =>
        refine ⟨by simpa using h1, by simpa using h2, ?_, ?_⟩
        · apply Classical.byContradiction; intro h4; exact h3 (.inl h4)
        · apply Classical.byContradiction; intro h4; exact h3 (.inr h4)
theorem tchk_sz {t : Tn} (h : tchk t = 0) : t.dims.length ≤ 6 ∧ t.data.length ≤ 65536 := by
  obtain ⟨_, h2, h3, _⟩ := tchk_0 h
  obtain ⟨h4, h5, _⟩ := errC_0 h2
  exact ⟨h4, by omega⟩
theorem noS_sz {s : ByteArray} (h : noS s = true) : s.size ≤ 100 := by
  have := text_nil (of_decide_eq_true h)
  rw [this]; decide
theorem hasT_no {t : Tn} (h : hasT t = false) : t.dims = [] ∧ t.data = [] ∧ t.typ = 0 := by
  simp only [hasT, Bool.or_eq_false_iff, decide_eq_false_iff_not] at h
  refine ⟨List.eq_nil_of_length_eq_zero (by omega), List.eq_nil_of_length_eq_zero (by omega), by simpa using h.2⟩
theorem attrT_ok {a : At} (h : attrT a = true) : AtOk a := by
  simp only [attrT, Bool.and_eq_true, decide_eq_true_eq] at h
  obtain ⟨hn, hb⟩ := h
  have ht : ∀ {t : Tn}, (!hasT t) = true → t.dims.length ≤ 6 ∧ t.data.length ≤ 65536 := by
    intro t h
    obtain ⟨h1, h2, _⟩ := hasT_no (by simpa using h)
    rw [h1, h2]; decide
  unfold bareB at hb
  split at hb
  · simp only [Bool.and_eq_true, beq_iff_eq] at hb
    obtain ⟨⟨⟨⟨_, _⟩, h3⟩, h4⟩, h5⟩ := hb
    exact ⟨hn, noS_sz h3, by omega, (ht h4).1, (ht h4).2⟩
  split at hb
  · simp only [Bool.and_eq_true, beq_iff_eq] at hb
    obtain ⟨⟨⟨_, h3⟩, h4⟩, h5⟩ := hb
    exact ⟨hn, noS_sz h3, by omega, (ht h4).1, (ht h4).2⟩
  split at hb
  · simp only [Bool.and_eq_true, beq_iff_eq, decide_eq_true_eq] at hb
    obtain ⟨⟨⟨⟨_, _⟩, h3⟩, h4⟩, h5⟩ := hb
    exact ⟨hn, h3, by omega, (ht h4).1, (ht h4).2⟩
  split at hb
  · simp only [Bool.and_eq_true, beq_iff_eq] at hb
    obtain ⟨⟨⟨⟨_, _⟩, h3⟩, h4⟩, h5⟩ := hb
    exact ⟨hn, noS_sz h3, by omega, (tchk_sz h4).1, (tchk_sz h4).2⟩
  split at hb
  · simp only [Bool.and_eq_true, beq_iff_eq, decide_eq_true_eq] at hb
    obtain ⟨⟨⟨⟨_, _⟩, h3⟩, h4⟩, h5⟩ := hb
    exact ⟨hn, noS_sz h3, h5, (ht h4).1, (ht h4).2⟩
  · cases hb
theorem nodeT_ok {n : Nd} (h : nodeT n = true) : NdOk n := by
  simp only [nodeT, shortB, Bool.and_eq_true, decide_eq_true_eq, List.all_eq_true] at h
  obtain ⟨⟨⟨⟨⟨⟨h1, h2⟩, h3⟩, h4⟩, h5⟩, h6⟩, h7⟩ := h
  exact ⟨h2, h1, h3, h5, h4, h6, fun a ha => attrT_ok (h7 a ha)⟩
theorem valT_ok {v : Vl} (h : valT v = true) : VlOk v := by
  simp only [valT, Bool.and_eq_true, decide_eq_true_eq, beq_iff_eq] at h
  exact ⟨h.2, (errC_0 h.1.1).1⟩
/-- What a told graph keeps to. -/
structure Keeping (g : Gr) : Prop where
  name : g.name.size ≤ 100
  nodes : g.nodes.length ≤ 1000
  sum : g.ins.length + g.inits.length + g.nodes.length ≤ 3000
  outs : g.outs.length ≤ 3000
  node : ∀ n ∈ g.nodes, NdOk n
  inp : ∀ v ∈ g.ins, VlOk v
  out : ∀ v ∈ g.outs, VlOk v
  init : ∀ t ∈ g.inits, t.name.size ≤ 100 ∧ t.t.dims.length ≤ 6 ∧ t.t.data.length ≤ 65536
theorem told_keeps {g : Gr} (h : toldB g = true) : Keeping g := by
  simp only [toldB, fewG, fewB, Bool.and_eq_true, decide_eq_true_eq, List.all_eq_true] at h
  obtain ⟨⟨⟨⟨⟨⟨⟨h1, h2⟩, h3⟩, h4⟩, h5⟩, h6⟩, h7⟩, h8⟩ := h
  refine ⟨h1, h2, h3, h4, fun n hn => nodeT_ok (h5 n hn), fun v hv => valT_ok (h6 v hv), fun v hv => valT_ok (h7 v hv), fun t ht => ?_⟩
  have := h8 t ht
  simp only [initT, Bool.and_eq_true, decide_eq_true_eq, beq_iff_eq] at this
  exact ⟨this.2, tchk_sz this.1⟩
set_option maxRecDepth 100000 in
set_option maxHeartbeats 1600000 in
theorem ecatch_bad (p q : Nat) (x err : Int) (a0 : Value) (w : World) (hp : w.heap[p]? = some (.cells #[a0] 9 (0, 0))) (hq : w.heap[q]? = some (.cells #[.int .i64 x] 26 (0, 0))) (hpq : p ≠ q) :
    CallsD Try.prog 31 #[.pointer (some ⟨p, 0, none⟩), .pointer (some ⟨q, 0, none⟩)] (.panicking (refu err)) w fun e u' w' =>
      e = .returned (.tuple #[]) ∧ u' = .panicking [{ v := .iface 54 (.int .i64 err), recovered := true }] ∧ w' = (w.setCell ⟨p, 0, none⟩ (.string ⟨#[]⟩)).setCell ⟨q, 0, none⟩ (.int .i64 err) := by
  have p0 : w.cell? ⟨p, 0, none⟩ = some a0 := cell_of_row _ _ 0 _ 9 (0, 0) hp
  have q0 : w.cell? ⟨q, 0, none⟩ = some (.int .i64 x) := cell_of_row _ _ 0 _ 26 (0, 0) hq
  have f0 : w.frozen? ⟨p, 0, none⟩ = false := by simp [World.frozen?, hp]
  have g0 : w.frozen? ⟨q, 0, none⟩ = false := by simp [World.frozen?, hq]
  have hqp : q ≠ p := fun e => hpq e.symm
  clear hp hq
  refine callsD_of_wpS Try.func31 rfl fun c₀ cs hu => ?_
  apply wpS_seq
  apply wpS_region
  simp [wpOpsS, go_sem, recoverD, hu, Try.ntmps31, Exit.thenS, refu]
  rw [show #[Value.pointer (some ⟨p, 0, none⟩), Value.pointer (some ⟨q, 0, none⟩)] ++ ((Array.replicate 15 undef).setIfInBounds 3 (Value.iface 54 (.int .i64 err))).setIfInBounds 0 (Value.iface 54 (.int .i64 err)) = #[Value.pointer (some ⟨p, 0, none⟩), Value.pointer (some ⟨q, 0, none⟩), Value.iface 54 (.int .i64 err), undef, undef, Value.iface 54 (.int .i64 err), undef, undef, undef, undef, undef, undef, undef, undef, undef, undef, undef] from rfl]
  refine wpS_of_wp ?_
  have hta := is_refu err
  go_wp2
  cases c₀
  simp_all [bodyPostS, results, Try.results31]
theorem ecatch_idle (p q : Addr) (w : World) :
    CallsD Try.prog 31 #[.pointer (some p), .pointer (some q)] .returning w fun e u' w' => e = .returned (.tuple #[]) ∧ u' = .returning ∧ w' = w := by
  refine callsD_of_wpS Try.func31 rfl fun c₀ cs hu => ?_
  apply wpS_seq
  apply wpS_region
  simp [wpOpsS, go_sem, recoverD, hu, Try.ntmps31, Exit.thenS]
  rw [show #[Value.pointer (some p), Value.pointer (some q)] ++ ((Array.replicate 15 undef).setIfInBounds 3 Value.nilIface).setIfInBounds 0 Value.nilIface = #[Value.pointer (some p), Value.pointer (some q), Value.nilIface, undef, undef, Value.nilIface, undef, undef, undef, undef, undef, undef, undef, undef, undef, undef, undef] from rfl]
  refine wpS_of_wp ?_
  go_wp2
  cases c₀
  simp_all [bodyPostS, results, Try.results31]
abbrev encDefers (w : World) : List Deferred := [{ target := .fn (.func 31) #[.pointer (some ⟨w.heap.size + 1, 0, none⟩), .pointer (some ⟨w.heap.size + 1 + 1, 0, none⟩)], args := #[] }]
/-- A panic of the writer's, caught. -/
theorem enc_caught {g : Gr} {w w1 : World} {err : Int} (hno : encodeE g = .error err) (hb : Below w.heap.size w w1) {x : Int} {c0 : Value} (hp : w1.heap[w.heap.size + 1]? = some (.cells #[c0] 9 (0, 0))) (hq : w1.heap[w.heap.size + 1 + 1]? = some (.cells #[.int .i64 x] 26 (0, 0)))
    (a : Act) (h2 : a.tmps.getD 2 undef = .pointer (some ⟨w.heap.size + 1, 0, none⟩)) (h3 : a.tmps.getD 3 undef = .pointer (some ⟨w.heap.size + 1 + 1, 0, none⟩)) (hd : a.defers = encDefers w) :
    bodyPostD Try.prog Try.f13 (EncIs g w) (.panic (refu err)) a w1 := by
  show Leaves Try.prog Try.f13 a.tmps (EncIs g w) a.defers (.panicking (refu err)) w1
  rw [hd]
  refine leaves_cons (f := 31) (args := #[.pointer (some ⟨w.heap.size + 1, 0, none⟩), .pointer (some ⟨w.heap.size + 1 + 1, 0, none⟩)]) (by simp) (by simp [go_sem]) ?_
  refine (ecatch_bad _ _ x err _ _ hp hq (by omega)).mono ?_
  rintro e u' w'' ⟨rfl, rfl, rfl⟩
  have hP := (Below.heap_setCell (w1.setCell ⟨w.heap.size + 1, 0, none⟩ (.string ⟨#[]⟩)) ⟨w.heap.size + 1 + 1, 0, none⟩ (.int .i64 err) (w.heap.size + 1) (by simp)).trans (one_set hp (.string ⟨#[]⟩))
  have hQ := one_set ((Below.heap_setCell w1 ⟨w.heap.size + 1, 0, none⟩ (.string ⟨#[]⟩) (w.heap.size + 1 + 1) (by simp)).trans hq) (.int .i64 err)
  have hfin : Below w.heap.size w ((w1.setCell ⟨w.heap.size + 1, 0, none⟩ (.string ⟨#[]⟩)).setCell ⟨w.heap.size + 1 + 1, 0, none⟩ (.int .i64 err)) := (hb.setCell (by dsimp only; omega) _).setCell (by dsimp only; omega) _
  generalize (w1.setCell ⟨w.heap.size + 1, 0, none⟩ (.string ⟨#[]⟩)).setCell ⟨w.heap.size + 1 + 1, 0, none⟩ (.int .i64 err) = W at hP hQ hfin ⊢
  have p0 : W.cell? ⟨w.heap.size + 1, 0, none⟩ = some (.string ⟨#[]⟩) := cell_of_row _ _ 0 _ 9 (0, 0) hP
  have q0 : W.cell? ⟨w.heap.size + 1 + 1, 0, none⟩ = some (.int .i64 err) := cell_of_row _ _ 0 _ 26 (0, 0) hQ
  clear hP hQ hp hq hb
  rw [Array.getD_eq_getD_getElem?] at h2 h3
  simp [Leaves, settle, results, Try.results13, go_sem, p0, q0, h2, h3]
  exact ⟨by unfold encS encErr; rw [hno], hfin⟩
end Go.Proofs.Ytkcnpnnflbibiaa
