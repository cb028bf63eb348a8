import Derived.Test.YtbilddeepnnogaaGreatDoorHhm
import Derived.Test.YtbilddeepnnogaaGreatDoorFhm
import Derived.Laws.EntriesVeiled
set_option linter.unusedVariables false
set_option linter.unusedSimpArgs false
/- A file is loaded: the five steps, over what Decode gives. -/
section
set_option linter.unusedVariables false
set_option maxRecDepth 100000
namespace Go.Proofs.YtbilddeepnnogaaGreatDoor
open Go.RowKit Go.Shelf

theorem putK {F : World → Prop} {w : World} {g : Nat} {t : TypeId} {old : Array Value} (k : Nat) (ds : List Value) (h : w.heap[g]? = some (.cells old t (0, 0))) (hk : ∀ w', w'.heap[g]? = some (.cells (putAll old k ds) t (0, 0)) → Only g w w' → w'.heap.size = w.heap.size → F w') : F (setFrom w g k ds) := by
  obtain ⟨h1, h2, h3, h4, h5⟩ := setFrom_keep g ds k w
  exact hk _ (setFrom_heap t g ds k w _ h) ⟨h3, h4, h5, Nat.le_of_eq h2.symm, fun j _ hj => h1 j hj⟩ h2
/-- A cell that is written as it was. -/
theorem set_same {w : World} {g : Nat} {t : TypeId} {v : Value} (h : w.heap[g]? = some (.cells #[v] t (0, 0))) : Since w (w.setCell ⟨g, 0, none⟩ v) := by
  refine ⟨rfl, rfl, rfl, by simp [World.setCell], fun k hk => ?_⟩
  by_cases e : k = g
  · subst e
    rw [h]
    simpa using heap_setCell_same w k 0 _ t v h
  · exact Below.heap_setCell _ _ _ _ e
theorem Gl.only {w w' : World} (h : Gl w) {P : Nat} (ho : Only P w w') (hP : 5 ≤ P) : Gl w' := by
  obtain ⟨⟨m, h1⟩, h2, h3⟩ := h
  exact ⟨⟨m, (World.cell?_of_block (a := ⟨2, 0, none⟩) (ho.block 2 (by omega) (by omega))).trans h1⟩, (ho.block 0 (by omega) (by omega)).trans h2, Nat.le_trans h3 ho.size⟩
section
variable {w w' : World} {g : Nat} {cs : Array Value} {t : TypeId}
theorem VlAt.far {A : Option Addr} {ns : List ByteArray} {x : Int} (h : VlAt w A ns x) (hns : ∀ s ∈ ns, s ≠ ⟨#[]⟩) (hg : w.heap[g]? = some (.cells cs t (0, 0))) (h1 : ∀ s, s ≠ (⟨#[]⟩ : ByteArray) → (.string s) ∉ cs) (h2 : (.int .i64 x) ∉ cs) (ho : Only g w w') : VlAt w' A ns x := by
  obtain ⟨b, off, e, hb, hc⟩ := h
  refine ⟨b, off, e, Nat.lt_of_lt_of_le hb ho.size, fun j s hj => ?_⟩
  obtain ⟨Ad, c, q0, q1, q2, bd, od, rfl, q3, q4⟩ := hc j s hj
  have n1 := ne_of_val hg (h1 s (hns s (List.mem_of_getElem? hj))) q0
  have n2 := ne_of_val hg h2 q4
  have ce : ∀ i, w'.cell? ⟨b, i, none⟩ = w.cell? ⟨b, i, none⟩ := fun i => World.cell?_of_block (a := ⟨b, i, none⟩) (ho.block b hb n1)
  exact ⟨_, c, (ce _).trans q0, (ce _).trans q1, (ce _).trans q2, bd, od, rfl, Nat.lt_of_lt_of_le q3 ho.size, (World.cell?_of_block (a := ⟨bd, od, none⟩) (ho.block bd q3 n2)).trans q4⟩
theorem FlatL.named {l : List Op1} (h : FlatL l) : ∀ s ∈ l.map (·.out), s ≠ (⟨#[]⟩ : ByteArray) := by
  intro s hs e
  obtain ⟨o, ho, rfl⟩ := List.mem_map.1 hs
  have := (h.outs o ho).1
  rw [e, show ((⟨#[]⟩ : ByteArray).toList == []) = true by kernel_rfl] at this
  cases this
theorem FlatG.far {An Ai Ao : Option Addr} {l : List Op1} {x : Int} (h : FlatG w An Ai Ao l x) (hg : w.heap[g]? = some (.cells cs t (0, 0))) (h1 : ∀ s, s ≠ (⟨#[]⟩ : ByteArray) → (.string s) ∉ cs) (h2 : (.int .i64 x) ∉ cs) (ho : Only g w w') (h5 : 5 ≤ g) : FlatG w' An Ai Ao l x := by
  refine ⟨h.ok, h.gl.only ho h5, h.lo, h.hi, ?_, h.ins.far (by intro s hs; simp at hs; rw [hs]; decide) hg h1 h2 ho, h.outs.far h.ok.named hg h1 h2 ho⟩
  obtain ⟨b, off, rfl, hb, hc⟩ := h.nodes
  have ne : ∀ {b o : Nat} {s : ByteArray}, b < w.heap.size → s ≠ ⟨#[]⟩ → w.cell? ⟨b, o, none⟩ = some (.string s) → w'.heap[b]? = w.heap[b]? := fun hb hs hc => ho.block _ hb (ne_of_val hg (h1 _ hs) hc)
  refine ⟨b, off, rfl, Nat.lt_of_lt_of_le hb ho.size, fun j o hj => ?_⟩
  obtain ⟨nm, A', c, q0, q1, q2, q3, q4, q5⟩ := hc j o hj
  have hop := h.ok.ops o (List.mem_of_getElem? hj)
  have hbb := ne hb hop.ne q0
  have ce : ∀ o, w'.cell? ⟨b, o, none⟩ = w.cell? ⟨b, o, none⟩ := fun o => World.cell?_of_block (a := ⟨b, o, none⟩) hbb
  exact ⟨nm, A', c, (ce _).trans q0, (ce _).trans q1, (ce _).trans q2, (ce _).trans q3, (ce _).trans q4, q5.keep (fun b o hc => ne (World.block_lt_of_cell? w ⟨b, o, none⟩ hc) (by decide) hc) ho.size (by have := hop.cases; omega)⟩
theorem PlcAt.far {A : Option Addr} {l : List Op1} {x : Nat} (h : PlcAt w A l x) (hl : FlatL l) (hg : w.heap[g]? = some (.cells cs t (0, 0))) (h1 : ∀ s, s ≠ (⟨#[]⟩ : ByteArray) → (.string s) ∉ cs) (ho : Only g w w') : PlcAt w' A l x := by
  obtain ⟨b, rfl, hb, hc⟩ := h
  refine ⟨b, rfl, Nat.lt_of_lt_of_le hb ho.size, fun j o hj => ?_⟩
  obtain ⟨q0, q1, q2⟩ := hc j o hj
  have n1 := ne_of_val hg (h1 o.out (hl.named _ (List.mem_map.2 ⟨o, List.mem_of_getElem? hj, rfl⟩))) q0
  have ce : ∀ i, w'.cell? ⟨b, i, none⟩ = w.cell? ⟨b, i, none⟩ := fun i => World.cell?_of_block (a := ⟨b, i, none⟩) (ho.block b hb n1)
  exact ⟨(ce _).trans q0, (ce _).trans q1, (ce _).trans q2⟩
theorem UpTo.far {A : Option Addr} {n : Nat} (h : UpTo w A n) (hA : ∀ a, A = some a → a.block ≠ g) (ho : Only g w w') : UpTo w' A n := by
  obtain ⟨b, off, rfl, hb, hc⟩ := h
  exact ⟨b, off, rfl, Nat.lt_of_lt_of_le hb ho.size, fun j hj => (World.cell?_of_block (a := ⟨b, off + j, none⟩) (ho.block b hb (hA _ rfl))).trans (hc j hj)⟩
end
/-- Some cells of the plan's block are written, and the error's, as it was. -/
theorem turnP {w3 : World} {P E : Nat} {old : Array Value} {t : TypeId} (k : Nat) (ds : List Value) (hP : w3.heap[P]? = some (.cells old t (0, 0))) (hE : w3.heap[E]? = some (.cells #[.int .i64 0] 39 (0, 0))) (hPE : P ≠ E) : Only P w3 ((setFrom w3 P k ds).setCell ⟨E, 0, none⟩ (.int .i64 0)) ∧ ((setFrom w3 P k ds).setCell ⟨E, 0, none⟩ (.int .i64 0)).heap[P]? = some (.cells (putAll old k ds) t (0, 0)) :=
  putK (F := fun W9 => Only P w3 (W9.setCell ⟨E, 0, none⟩ (.int .i64 0)) ∧ (W9.setCell ⟨E, 0, none⟩ (.int .i64 0)).heap[P]? = some (.cells (putAll old k ds) t (0, 0))) k ds hP fun w9 g9 ho9 hz9 => by
    have hs := set_same ((ho9.block E (Array.getElem?_eq_some_iff.1 hE).1 hPE.symm).trans hE)
    exact ⟨ho9.trans (only_of_since P hs), hs.kp g9⟩
set_option maxHeartbeats 1600000 in
/-- The first step: the file is read. -/
theorem clo22 (s : ByteArray) (l : List Op1) (x : Nat) (S P E : Nat) (d0 d1 d2 d3 d4 c5 c6 c7 c8 c9 : Value) (W : World) (hgl : Gl W) (hD : Calls Tryz.prog 23 #[.string s] W (PassIs ⟨#[]⟩ l x W)) (hS : W.cell? ⟨S, 0, none⟩ = some (.string s)) (hP : W.heap[P]? = some (.cells #[d0, d1, d2, d3, d4, c5, c6, c7, c8, c9] 55 (0, 0))) (hE : W.heap[E]? = some (.cells #[.int .i64 0] 39 (0, 0))) (hPE : P ≠ E) :
    Calls Tryz.prog 22 #[.pointer (some ⟨S, 0, none⟩), .pointer (some ⟨P, 0, none⟩), .pointer (some ⟨E, 0, none⟩)] W fun e W' => e = .returned (.tuple #[]) ∧ ∃ W3 An Ai Ao cn ci co, Since W W3 ∧ FlatG W3 An Ai Ao l x ∧ Only P W3 W' ∧ W'.heap[P]? = some (.cells #[.string ⟨#[]⟩, .slice An l.length cn, .slice Ai 1 ci, .slice Ao l.length co, .slice none 0 0, c5, c6, c7, c8, c9] 55 (0, 0)) := by
  have np := (Array.getElem?_eq_some_iff.1 hP).1
  have HP := Lib.hid hP
  have HE := Lib.hid hE
  clear hP hE
  go_enter Tryz.func22, Tryz.ntmps22
  go_wp2_with (go_at_call 23; refine hD.mono ?_; rintro e w3 ⟨An, Ai, Ao, cn, ci, co, rfl, hf, hb⟩; have hs3 : Since W w3 := hb; have gP := hs3.kp HP.out; have gE := hs3.kp HE.out; obtain ⟨p0, p1, p2, p3, p4, p5, p6, p7, p8, p9⟩ := cells10 gP; obtain ⟨e0, fe0⟩ := cells1 gE; have f0 := frozen_row gP 0; have f1 := frozen_row gP 1; have f2 := frozen_row gP 2; have f3 := frozen_row gP 3; have f4 := frozen_row gP 4; have HF := Lib.hid hf; have HS3 := Lib.hid hs3; have GP := Lib.hid gP; have GE := Lib.hid gE; clear hf hb hs3 gP gE)
  go_end0
  obtain ⟨k1, k2⟩ := turnP 0 [.string ⟨#[]⟩, .slice An l.length cn, .slice Ai 1 ci, .slice Ao l.length co, .slice none 0 0] GP.out GE.out hPE
  exact ⟨rfl, w3, An, Ai, Ao, cn, ci, co, HS3.out, HF.out, k1, k2⟩
set_option maxHeartbeats 1600000 in
/-- The second step: the passes. -/
theorem clo24 (l : List Op1) (x : Nat) (mask : Nat) (hmask : mask ≤ 15) (hmany : ∀ o ∈ l, Ops1 o.op → 1 < l.length) (M P E : Nat) (An Ai Ao : Option Addr) (cn ci co : Nat) (c5 c6 c7 c8 c9 : Value) (W : World) (hf : FlatG W An Ai Ao l x) (hM : W.cell? ⟨M, 0, none⟩ = some (.int .i64 mask)) (hP : W.heap[P]? = some (.cells #[.string ⟨#[]⟩, .slice An l.length cn, .slice Ai 1 ci, .slice Ao l.length co, .slice none 0 0, c5, c6, c7, c8, c9] 55 (0, 0))) (hE : W.heap[E]? = some (.cells #[.int .i64 0] 39 (0, 0))) (hPE : P ≠ E) :
    Calls Tryz.prog 24 #[.pointer (some ⟨P, 0, none⟩), .pointer (some ⟨M, 0, none⟩), .pointer (some ⟨E, 0, none⟩)] W fun e W' => e = .returned (.tuple #[]) ∧ ∃ W3 An Ai Ao cn ci co, Since W W3 ∧ FlatG W3 An Ai Ao l x ∧ Only P W3 W' ∧ W'.heap[P]? = some (.cells #[.string ⟨#[]⟩, .slice An l.length cn, .slice Ai 1 ci, .slice Ao l.length co, .slice none 0 0, c5, c6, c7, c8, c9] 55 (0, 0)) := by
  have np := (Array.getElem?_eq_some_iff.1 hP).1
  have hR := run_any An Ai Ao cn ci co l x W hf hmany mask hmask
  obtain ⟨p0, p1, p2, p3, p4, p5, p6, p7, p8, p9⟩ := cells10 hP
  have HP := Lib.hid hP
  have HE := Lib.hid hE
  clear hP hE hf
  go_enter Tryz.func24, Tryz.ntmps24
  go_wp2_with (go_at_call 25; refine hR.mono ?_; rintro e w3 ⟨An3, Ai3, Ao3, cn3, ci3, co3, rfl, hf, hb⟩; have hs3 : Since W w3 := hb; have gP := hs3.kp HP.out; have gE := hs3.kp HE.out; obtain ⟨p0, p1, p2, p3, p4, p5, p6, p7, p8, p9⟩ := cells10 gP; obtain ⟨e0, fe0⟩ := cells1 gE; have f0 := frozen_row gP 0; have f1 := frozen_row gP 1; have f2 := frozen_row gP 2; have f3 := frozen_row gP 3; have f4 := frozen_row gP 4; have HF := Lib.hid hf; have HS3 := Lib.hid hs3; have GP := Lib.hid gP; have GE := Lib.hid gE; clear hf hb hs3 gP gE)
  go_end0
  obtain ⟨k1, k2⟩ := turnP 0 [.string ⟨#[]⟩, .slice An3 l.length cn3, .slice Ai3 1 ci3, .slice Ao3 l.length co3, .slice none 0 0] GP.out GE.out hPE
  exact ⟨rfl, w3, An3, Ai3, Ao3, cn3, ci3, co3, HS3.out, HF.out, k1, k2⟩
set_option maxHeartbeats 1600000 in
/-- The third step: the layout. -/
theorem clo26 (l : List Op1) (x : Nat) (P E : Nat) (An Ai Ao : Option Addr) (cn ci co : Nat) (c5 c6 c7 c8 c9 : Value) (W : World) (hf : FlatG W An Ai Ao l x) (hP : W.heap[P]? = some (.cells #[.string ⟨#[]⟩, .slice An l.length cn, .slice Ai 1 ci, .slice Ao l.length co, .slice none 0 0, c5, c6, c7, c8, c9] 55 (0, 0))) (hE : W.heap[E]? = some (.cells #[.int .i64 0] 39 (0, 0))) (hPE : P ≠ E) :
    Calls Tryz.prog 26 #[.pointer (some ⟨P, 0, none⟩), .pointer (some ⟨E, 0, none⟩)] W fun e W' => e = .returned (.tuple #[]) ∧ ∃ W3 Ap cp, Since W W3 ∧ PlcAt W3 Ap l x ∧ l.length ≤ cp ∧ Only P W3 W' ∧ W'.heap[P]? = some (.cells #[.string ⟨#[]⟩, .slice An l.length cn, .slice Ai 1 ci, .slice Ao l.length co, .slice none 0 0, c5, c6, .int .i64 (l.length * up8 (4 * x) : Nat), .slice Ap l.length cp, .slice none 0 0] 55 (0, 0)) := by
  have np := (Array.getElem?_eq_some_iff.1 hP).1
  have hR := plan_any ⟨#[]⟩ An Ai Ao cn ci co l x W hf
  obtain ⟨p0, p1, p2, p3, p4, p5, p6, p7, p8, p9⟩ := cells10 hP
  have HP := Lib.hid hP
  have HE := Lib.hid hE
  clear hP hE hf
  generalize hm : l.length * up8 (4 * x) = m at hR ⊢
  go_enter Tryz.func26, Tryz.ntmps26
  go_wp2_with (go_at_call 27; refine hR.mono ?_; rintro e w3 ⟨Ap, cp, rfl, hpl, hcp, hb⟩; have hs3 : Since W w3 := hb; have gP := hs3.kp HP.out; have gE := hs3.kp HE.out; obtain ⟨p0, p1, p2, p3, p4, p5, p6, p7, p8, p9⟩ := cells10 gP; obtain ⟨e0, fe0⟩ := cells1 gE; have f7 := frozen_row gP 7; have f8 := frozen_row gP 8; have f9 := frozen_row gP 9; have HF := Lib.hid hpl; have HS3 := Lib.hid hs3; have GP := Lib.hid gP; have GE := Lib.hid gE; clear hpl hb hs3 gP gE)
  go_end0
  obtain ⟨k1, k2⟩ := turnP 7 [.int .i64 m, .slice Ap l.length cp, .slice none 0 0] GP.out GE.out hPE
  exact ⟨rfl, w3, Ap, cp, HS3.out, HF.out, hcp, k1, k2⟩
set_option maxHeartbeats 1600000 in
/-- The fourth step: the order. -/
theorem clo28 (l : List Op1) (x : Nat) (P E : Nat) (An Ai Ao : Option Addr) (cn ci co : Nat) (c5 c6 c7 c8 c9 : Value) (W : World) (hf : FlatG W An Ai Ao l x) (hP : W.heap[P]? = some (.cells #[.string ⟨#[]⟩, .slice An l.length cn, .slice Ai 1 ci, .slice Ao l.length co, .slice none 0 0, c5, c6, c7, c8, c9] 55 (0, 0))) (hE : W.heap[E]? = some (.cells #[.int .i64 0] 39 (0, 0))) (hPE : P ≠ E) :
    Calls Tryz.prog 28 #[.pointer (some ⟨P, 0, none⟩), .pointer (some ⟨E, 0, none⟩)] W fun e W' => e = .returned (.tuple #[]) ∧ ∃ W3 Aq cq, Since W W3 ∧ UpTo W3 Aq l.length ∧ (∀ a, Aq = some a → W.heap.size ≤ a.block) ∧ Only P W3 W' ∧ W'.heap[P]? = some (.cells #[.string ⟨#[]⟩, .slice An l.length cn, .slice Ai 1 ci, .slice Ao l.length co, .slice none 0 0, .slice Aq l.length cq, c6, c7, c8, c9] 55 (0, 0)) := by
  have np := (Array.getElem?_eq_some_iff.1 hP).1
  have hR := order_new ⟨#[]⟩ An Ai Ao cn ci co l x W hf
  obtain ⟨p0, p1, p2, p3, p4, p5, p6, p7, p8, p9⟩ := cells10 hP
  have HP := Lib.hid hP
  have HE := Lib.hid hE
  clear hP hE hf
  go_enter Tryz.func28, Tryz.ntmps28
  go_wp2_with (go_at_call 29; refine hR.mono ?_; rintro e w3 ⟨Aq, cq, rfl, hq, hb, hnew⟩; have hs3 : Since W w3 := hb; have gP := hs3.kp HP.out; have gE := hs3.kp HE.out; obtain ⟨p0, p1, p2, p3, p4, p5, p6, p7, p8, p9⟩ := cells10 gP; obtain ⟨e0, fe0⟩ := cells1 gE; have f5 := frozen_row gP 5; have HF := Lib.hid hq; have HS3 := Lib.hid hs3; have GP := Lib.hid gP; have GE := Lib.hid gE; clear hq hb hs3 gP gE)
  go_end0
  obtain ⟨k1, k2⟩ := turnP 5 [.slice Aq l.length cq] GP.out GE.out hPE
  exact ⟨rfl, w3, Aq, cq, HS3.out, HF.out, hnew, k1, k2⟩
set_option maxHeartbeats 1600000 in
/-- The fifth step: the values. -/
theorem clo30 (l : List Op1) (x : Nat) (P E : Nat) (An Ai Ao : Option Addr) (cn ci co : Nat) (c5 c6 c7 c8 c9 : Value) (W : World) (hf : FlatG W An Ai Ao l x) (hP : W.heap[P]? = some (.cells #[.string ⟨#[]⟩, .slice An l.length cn, .slice Ai 1 ci, .slice Ao l.length co, .slice none 0 0, c5, c6, c7, c8, c9] 55 (0, 0))) (hE : W.heap[E]? = some (.cells #[.int .i64 0] 39 (0, 0))) (hPE : P ≠ E) :
    Calls Tryz.prog 30 #[.pointer (some ⟨P, 0, none⟩), .pointer (some ⟨E, 0, none⟩)] W fun e W' => e = .returned (.tuple #[]) ∧ ∃ W3 Av cv, Since W W3 ∧ VlAt W3 Av (⟨#[120]⟩ :: l.map (·.out)) x ∧ Only P W3 W' ∧ W'.heap[P]? = some (.cells #[.string ⟨#[]⟩, .slice An l.length cn, .slice Ai 1 ci, .slice Ao l.length co, .slice none 0 0, c5, .slice Av (l.length + 1) cv, c7, c8, c9] 55 (0, 0)) := by
  have np := (Array.getElem?_eq_some_iff.1 hP).1
  have hR := all_any ⟨#[]⟩ An Ai Ao cn ci co l x W hf
  obtain ⟨p0, p1, p2, p3, p4, p5, p6, p7, p8, p9⟩ := cells10 hP
  have HP := Lib.hid hP
  have HE := Lib.hid hE
  clear hP hE hf
  go_enter Tryz.func30, Tryz.ntmps30
  go_wp2_with (go_at_call 31; refine hR.mono ?_; rintro e w3 ⟨Av, cv, rfl, hv, hb⟩; have hs3 : Since W w3 := hb; have gP := hs3.kp HP.out; have gE := hs3.kp HE.out; obtain ⟨p0, p1, p2, p3, p4, p5, p6, p7, p8, p9⟩ := cells10 gP; obtain ⟨e0, fe0⟩ := cells1 gE; have f6 := frozen_row gP 6; have HF := Lib.hid hv; have HS3 := Lib.hid hs3; have GP := Lib.hid gP; have GE := Lib.hid gE; clear hv hb hs3 gP gE)
  go_end0
  obtain ⟨k1, k2⟩ := turnP 6 [.slice Av (l.length + 1) cv] GP.out GE.out hPE
  exact ⟨rfl, w3, Av, cv, HS3.out, HF.out, k1, k2⟩
end Go.Proofs.YtbilddeepnnogaaGreatDoor
end
/- A file is loaded. -/
section
set_option linter.unusedVariables false
set_option maxRecDepth 100000
namespace Go.Proofs.YtbilddeepnnogaaGreatDoor
open Go.RowKit Go.Shelf

theorem fx6 (w : World) (a b c d e f : Obj) : Fx w ((((((w.alloc a).alloc b).alloc c).alloc d).alloc e).alloc f) [some a, some b, some c, some d, some e, some f] := (fx5 w a b c d e).push (by simp) f
theorem newX6 {F : World → Prop} {w : World} {a b c d e f : Obj} (h : ∀ w', Fx w w' [some a, some b, some c, some d, some e, some f] → F w') : F ((((((w.alloc a).alloc b).alloc c).alloc d).alloc e).alloc f) := h _ (fx6 w a b c d e f)
theorem cells5f {w : World} {g : Nat} {t : TypeId} {c0 c1 c2 c3 c4 : Value} (h : w.heap[g]? = some (.cells #[c0, c1, c2, c3, c4] t (0, 0))) : w.cell? ⟨g, 0, none⟩ = some c0 ∧ w.cell? ⟨g, 1, none⟩ = some c1 ∧ w.cell? ⟨g, 2, none⟩ = some c2 ∧ w.cell? ⟨g, 3, none⟩ = some c3 ∧ w.cell? ⟨g, 4, none⟩ = some c4 := by
  obtain ⟨a, b, c, d, e, -⟩ := cells5 h
  exact ⟨a, b, c, d, e⟩
/-- What Load gives. -/
def LoadIs (l : List Op1) (x : Nat) (w : World) (e : Ending) (w' : World) : Prop := ∃ An Ai Ao Or Vs Ap cn ci co c1 c2 cp, e = .returned (.tuple #[.agg #[.string ⟨#[]⟩, .slice An l.length cn, .slice Ai 1 ci, .slice Ao l.length co, .slice none 0 0, .slice Or l.length c1, .slice Vs (l.length + 1) c2, .int .i64 (l.length * up8 (4 * x) : Nat), .slice Ap l.length cp, .slice none 0 0], .int .i64 0]) ∧ PlnAt w' An Ai Ao Or Vs Ap cp l x ∧ Below w.heap.size w w'
set_option maxHeartbeats 6400000 in
theorem load_of (s : ByteArray) (mask : Nat) (hmask : mask ≤ 15) (l : List Op1) (x : Nat) (hx1 : 1 ≤ x) (hl : FlatL l) (w : World) (hgl : Gl w) (hmany : ∀ o ∈ l, Ops1 o.op → 1 < l.length) (hD : ∀ W, Gl W → Calls Tryz.prog 23 #[.string s] W (PassIs ⟨#[]⟩ l x W)) :
    Calls Tryz.prog 10 #[.string s, .int .i64 mask] w (LoadIs l x w) := by
  have HM := Lib.hid hmany
  have HD := Lib.hid hD
  have hmi : (mask : Int) ≤ 15 := by omega
  clear hmany hD
  go_enter Tryz.func10, Tryz.ntmps10
  go_wp2_with fail
  refine newX6 (F := fun W => Code.wp _ _ _ _ W) ?_
  intro w1 h1
  have hw5 := hgl.lt
  obtain ⟨m, hm⟩ : ∃ m, l.length * up8 (4 * x) = m := ⟨_, rfl⟩
  have hxm : (x : Int) ≠ m := by
    have h1 := up8_ge (4 * x)
    have h2 : 1 * up8 (4 * x) ≤ l.length * up8 (4 * x) := Nat.mul_le_mul_right _ hl.pos
    omega
  have hx0 : ¬ (x : Int) = 0 := by omega
  obtain ⟨os, hos⟩ : ∃ os : List (Option Obj), os = [some (.cells #[.string s] 9), some (.cells #[.int .i64 mask] 3), some (.cells #[.string ⟨#[]⟩, .slice none 0 0, .slice none 0 0, .slice none 0 0, .slice none 0 0, .slice none 0 0, .slice none 0 0, .int .i64 0, .slice none 0 0, .slice none 0 0] 55), none, some (.cells #[.int .i64 0] 39), some (.cells #[.func (.func 22) #[] #[.pointer (some ⟨w.heap.size, 0, none⟩), .pointer (some ⟨(w.heap.size + 1 + 1 + 1), 0, none⟩), .pointer (some ⟨(w.heap.size + 1 + 1 + 1 + 1), 0, none⟩)], .func (.func 24) #[] #[.pointer (some ⟨(w.heap.size + 1 + 1 + 1), 0, none⟩), .pointer (some ⟨w.heap.size + 1, 0, none⟩), .pointer (some ⟨(w.heap.size + 1 + 1 + 1 + 1), 0, none⟩)], .func (.func 26) #[] #[.pointer (some ⟨(w.heap.size + 1 + 1 + 1), 0, none⟩), .pointer (some ⟨(w.heap.size + 1 + 1 + 1 + 1), 0, none⟩)], .func (.func 28) #[] #[.pointer (some ⟨(w.heap.size + 1 + 1 + 1), 0, none⟩), .pointer (some ⟨(w.heap.size + 1 + 1 + 1 + 1), 0, none⟩)], .func (.func 30) #[] #[.pointer (some ⟨(w.heap.size + 1 + 1 + 1), 0, none⟩), .pointer (some ⟨(w.heap.size + 1 + 1 + 1 + 1), 0, none⟩)]] 1)] := ⟨_, rfl⟩
  have hP1 := h1.b3 rfl
  have hx1' : Fx w w1 os := by
    rw [hos]
    exact h1.free _ rfl (fun i o e => by
      match i, e with
      | 0, e => exact e
      | 1, e => exact e
      | 2, e => exact e
      | 4, e => exact e
      | 5, e => exact e)
  have h3 : os[3]? = some none := by rw [hos]; rfl
  have HFX := Lib.hid (show ∀ W, Fx w W os → W.cell? ⟨w.heap.size, 0, none⟩ = some (.string s) ∧ W.cell? ⟨w.heap.size + 1, 0, none⟩ = some (.int .i64 mask) ∧ W.heap[(w.heap.size + 1 + 1 + 1 + 1)]? = some (.cells #[.int .i64 0] 39 (0, 0)) ∧ W.cell? ⟨(w.heap.size + 1 + 1 + 1 + 1), 0, none⟩ = some (.int .i64 0) ∧ (W.cell? ⟨w.heap.size + 1 + 1 + 1 + 1 + 1, 0, none⟩ = some (.func (.func 22) #[] #[.pointer (some ⟨w.heap.size, 0, none⟩), .pointer (some ⟨(w.heap.size + 1 + 1 + 1), 0, none⟩), .pointer (some ⟨(w.heap.size + 1 + 1 + 1 + 1), 0, none⟩)]) ∧ W.cell? ⟨w.heap.size + 1 + 1 + 1 + 1 + 1, 1, none⟩ = some (.func (.func 24) #[] #[.pointer (some ⟨(w.heap.size + 1 + 1 + 1), 0, none⟩), .pointer (some ⟨w.heap.size + 1, 0, none⟩), .pointer (some ⟨(w.heap.size + 1 + 1 + 1 + 1), 0, none⟩)]) ∧ W.cell? ⟨w.heap.size + 1 + 1 + 1 + 1 + 1, 2, none⟩ = some (.func (.func 26) #[] #[.pointer (some ⟨(w.heap.size + 1 + 1 + 1), 0, none⟩), .pointer (some ⟨(w.heap.size + 1 + 1 + 1 + 1), 0, none⟩)]) ∧ W.cell? ⟨w.heap.size + 1 + 1 + 1 + 1 + 1, 3, none⟩ = some (.func (.func 28) #[] #[.pointer (some ⟨(w.heap.size + 1 + 1 + 1), 0, none⟩), .pointer (some ⟨(w.heap.size + 1 + 1 + 1 + 1), 0, none⟩)]) ∧ W.cell? ⟨w.heap.size + 1 + 1 + 1 + 1 + 1, 4, none⟩ = some (.func (.func 30) #[] #[.pointer (some ⟨(w.heap.size + 1 + 1 + 1), 0, none⟩), .pointer (some ⟨(w.heap.size + 1 + 1 + 1 + 1), 0, none⟩)])) from fun W h => by
    subst hos
    have hE := h.b4 rfl
    exact ⟨(cells1 (h.b0 rfl)).1, (cells1 (h.b1 rfl)).1, hE, (cells1 hE).1, cells5f (h.b5 rfl)⟩)
  have HOS2 := Lib.hid (show os[2]? = some (some (.cells #[.string ⟨#[]⟩, .slice none 0 0, .slice none 0 0, .slice none 0 0, .slice none 0 0, .slice none 0 0, .slice none 0 0, .int .i64 0, .slice none 0 0, .slice none 0 0] 55)) from by rw [hos]; rfl)
  have hpe : (w.heap.size + 1 + 1 + 1) ≠ (w.heap.size + 1 + 1 + 1 + 1) := by omega
  have hp5 : 5 ≤ (w.heap.size + 1 + 1 + 1) := by omega
  have HP1 := Lib.hid hP1
  have HX1 := Lib.hid hx1'
  clear hos h1 hP1 hx1'
  obtain ⟨s0, m0, E1, e0, g0, g1, g2, g3, g4⟩ := HFX.out w1 HX1.out
  refine wp_loop_rounds 6 ?_
  rw [rounds_succ]
  go_wp2_with (go_at_call 22; refine (clo22 s l x w.heap.size (w.heap.size + 1 + 1 + 1) (w.heap.size + 1 + 1 + 1 + 1) _ _ _ _ _ _ _ _ _ _ w1 (hgl.below HX1.out.below) (HD.out w1 (hgl.below HX1.out.below)) s0 HP1.out E1 hpe).mono ?_; rintro e w2 ⟨rfl, v2, A1, A2, A3, n1, n2, n3, hs2, hf2, ho2, hP2⟩; have HF2 := Lib.hid (hf2.far (hs2.kp HP1.out) (by intro s hs; simp [hs]) (by simp; omega) ho2 hp5); have HX2 := Lib.hid ((HX1.out.all hs2).only (i := 3) h3 ho2); have HP2 := Lib.hid hP2; obtain ⟨s0, m0, E2, e0, g0, g1, g2, g3, g4⟩ := HFX.out w2 HX2.out; clear E1 hs2 hf2 ho2 hP2)
  rw [rounds_succ]
  go_wp2_with (go_at_call 24; refine (clo24 l x mask hmask HM.out (w.heap.size + 1) (w.heap.size + 1 + 1 + 1) (w.heap.size + 1 + 1 + 1 + 1) A1 A2 A3 n1 n2 n3 _ _ _ _ _ w2 HF2.out m0 HP2.out E2 hpe).mono ?_; rintro e w3 ⟨rfl, v3, B1, B2, B3, k1, k2, k3, hs3, hf3, ho3, hP3⟩; have HF3 := Lib.hid (hf3.far (hs3.kp HP2.out) (by intro s hs; simp [hs]) (by simp; omega) ho3 hp5); have HX3 := Lib.hid ((HX2.out.all hs3).only (i := 3) h3 ho3); have HP3 := Lib.hid hP3; obtain ⟨s0, m0, E3, e0, g0, g1, g2, g3, g4⟩ := HFX.out w3 HX3.out; clear E2 hs3 hf3 ho3 hP3)
  rw [rounds_succ]
  go_wp2_with (go_at_call 26; have hC := clo26 l x (w.heap.size + 1 + 1 + 1) (w.heap.size + 1 + 1 + 1 + 1) B1 B2 B3 k1 k2 k3 _ _ _ _ _ w3 HF3.out HP3.out E3 hpe; rw [hm] at hC; refine hC.mono ?_; rintro e w4 ⟨rfl, v4, Ap, cp, hs4, hp4, hcp, ho4, hP4⟩; have HF4 := Lib.hid ((HF3.out.below hs4).far (hs4.kp HP3.out) (by intro s hs; simp [hs]) (by simp; omega) ho4 hp5); have HL4 := Lib.hid (hp4.far hl (hs4.kp HP3.out) (by intro s hs; simp [hs]) ho4); have HX4 := Lib.hid ((HX3.out.all hs4).only (i := 3) h3 ho4); have HP4 := Lib.hid hP4; obtain ⟨s0, m0, E4, e0, g0, g1, g2, g3, g4⟩ := HFX.out w4 HX4.out; clear E3 hs4 hp4 ho4 hP4 hC)
  rw [rounds_succ]
  go_wp2_with (go_at_call 28; refine (clo28 l x (w.heap.size + 1 + 1 + 1) (w.heap.size + 1 + 1 + 1 + 1) B1 B2 B3 k1 k2 k3 _ _ _ _ _ w4 HF4.out HP4.out E4 hpe).mono ?_; rintro e w5 ⟨rfl, v5, Aq, cq, hs5, hq5, hnew, ho5, hP5⟩; have z4 := HX4.out.size; have HF5 := Lib.hid ((HF4.out.below hs5).far (hs5.kp HP4.out) (by intro s hs; simp [hs]) (by simp; omega) ho5 hp5); have HL5 := Lib.hid ((HL4.out.below hs5).far hl (hs5.kp HP4.out) (by intro s hs; simp [hs]) ho5); have HQ5 := Lib.hid (hq5.far (fun a ha => by have := hnew a ha; have := (Array.getElem?_eq_some_iff.1 HP4.out).1; omega) ho5); have HX5 := Lib.hid ((HX4.out.all hs5).only (i := 3) h3 ho5); have HN := Lib.hid (fun a (ha : Aq = some a) => show (w.heap.size + 1 + 1 + 1) < a.block by have := hnew a ha; have := (Array.getElem?_eq_some_iff.1 HP4.out).1; omega); have HP5 := Lib.hid hP5; obtain ⟨s0, m0, E5, e0, g0, g1, g2, g3, g4⟩ := HFX.out w5 HX5.out; clear E4 hs5 hq5 ho5 hP5 hnew z4)
  rw [rounds_succ]
  go_wp2_with (go_at_call 30; refine (clo30 l x (w.heap.size + 1 + 1 + 1) (w.heap.size + 1 + 1 + 1 + 1) B1 B2 B3 k1 k2 k3 _ _ _ _ _ w5 HF5.out HP5.out E5 hpe).mono ?_; rintro e w6 ⟨rfl, v6, Av, cv, hs6, hv6, ho6, hP6⟩; have HF6 := Lib.hid ((HF5.out.below hs6).far (hs6.kp HP5.out) (by intro s hs; simp [hs]) (by simp; omega) ho6 hp5); have HL6 := Lib.hid ((HL5.out.below hs6).far hl (hs6.kp HP5.out) (by intro s hs; simp [hs]) ho6); have HQ6 := Lib.hid ((HQ5.out.below hs6).far (fun a ha => by have := HN.out a ha; omega) ho6); have HV6 := Lib.hid (hv6.far (fun s hs => (List.mem_cons.1 hs).elim (fun h => by rw [h]; decide) (fun h => hl.named s h)) (hs6.kp HP5.out) (by intro s hs; simp [hs]) (by simp; omega) ho6); have HX6 := Lib.hid ((HX5.out.all hs6).only (i := 3) h3 ho6); have HP6 := Lib.hid hP6; obtain ⟨s0, m0, E6, e0, g0, g1, g2, g3, g4⟩ := HFX.out w6 HX6.out; clear E5 hs6 hv6 ho6 hP6)
  rw [rounds_succ]
  have g2' := HX6.out.b2 HOS2.out
  obtain ⟨p0, p1, p2, p3, p4, p5, p6, p7, p8, p9⟩ := cells10 HP6.out
  obtain ⟨y0, y1, y2, y3, y4, y5, y6, y7, y8, y9⟩ := cells10 g2'
  have f0 := frozen_row g2' 0
  have f1 := frozen_row g2' 1
  have f2 := frozen_row g2' 2
  have f3 := frozen_row g2' 3
  have f4 := frozen_row g2' 4
  have f5 := frozen_row g2' 5
  have f6 := frozen_row g2' 6
  have f7 := frozen_row g2' 7
  have f8 := frozen_row g2' 8
  have f9 := frozen_row g2' 9
  have G2 := Lib.hid g2'
  clear g2' g0 g1 g2 g3 g4 s0 m0 E6
  go_wp2_with fail
  refine putK (F := fun W => bodyPost Tryz.prog Tryz.f10 (LoadIs l x w) Exit.ret _ W) 0 [.string ⟨#[]⟩, .slice B1 l.length k1, .slice B2 1 k2, .slice B3 l.length k3, .slice none 0 0, .slice Aq l.length cq, .slice Av (l.length + 1) cv, .int .i64 m, .slice Ap l.length cp, .slice none 0 0] G2.out ?_
  intro w9 g9 ho9 hz9
  have g9 : w9.heap[w.heap.size + 1 + 1]? = some (.cells #[.string ⟨#[]⟩, .slice B1 l.length k1, .slice B2 1 k2, .slice B3 l.length k3, .slice none 0 0, .slice Aq l.length cq, .slice Av (l.length + 1) cv, .int .i64 m, .slice Ap l.length cp, .slice none 0 0] 55 (0, 0)) := g9
  refine bodyPost_ret (res_row_tmp rfl _ _ (w.heap.size + 1 + 1) 55 _ (0, 0) _ rfl g9 Tryz.underlying55 rfl (by kernel_rfl)) rfl ?_
  have hs1 : ∀ s, s ≠ (⟨#[]⟩ : ByteArray) → (Value.string s) ∉ #[Value.string ⟨#[]⟩, .slice none 0 0, .slice none 0 0, .slice none 0 0, .slice none 0 0, .slice none 0 0, .slice none 0 0, .int .i64 0, .slice none 0 0, .slice none 0 0] := by intro s hs; simp [hs]
  have hs2 : (Value.int .i64 (x : Int)) ∉ #[Value.string ⟨#[]⟩, .slice none 0 0, .slice none 0 0, .slice none 0 0, .slice none 0 0, .slice none 0 0, .slice none 0 0, .int .i64 0, .slice none 0 0, .slice none 0 0] := by simp; omega
  exact ⟨B1, B2, B3, Aq, Av, Ap, k1, k2, k3, cq, cv, cp, by rw [hm]; rfl, ⟨HF6.out.far G2.out hs1 hs2 ho9 (by omega), HQ6.out.far (fun a ha => by have := HN.out a ha; omega) ho9, HV6.out.far (fun s hs => (List.mem_cons.1 hs).elim (fun h => by rw [h]; decide) (fun h => hl.named s h)) G2.out hs1 hs2 ho9, HL6.out.far hl G2.out hs1 ho9, hcp⟩, HX6.out.below.trans (ho9.below (by omega) (by have := HX6.out.below.size; omega))⟩
end Go.Proofs.YtbilddeepnnogaaGreatDoor
end
