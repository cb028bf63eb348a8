/- The walks: careful. -/
import Derived.Test.YtpnieegaemfffaaWe
import Derived.Defers
import Derived.Recover
namespace Go.Proofs.Ytpnieegaemfffaa
open Go.RowKit

theorem is_bad (w : World) : (Instr.typeAssert (.iface 58 (.agg #[])) 20 58 true).run Try.prog w = .ok (.tuple #[.agg #[], .bool true]) w := by kernel_rfl

set_option maxRecDepth 100000 in
theorem catch_bad (p : Addr) (x : Int) (w : World) (hc : w.cell? p = some (.int .i64 x)) (hz : w.frozen? p = false) (hp : p.block < w.heap.size) :
    CallsD Try.prog 31 #[.pointer (some p)] (.panicking bad) w fun e u' w' =>
      e = .returned (.tuple #[]) ∧ u' = .panicking [{ v := .iface 58 (.agg #[]), recovered := true }] ∧ w' = (w.alloc (.cells #[] 58)).setCell p (.int .i64 3) := by
  refine callsD_of_wpS Try.func31 rfl fun c₀ cs hu => ?_
  apply wpS_seq
  apply wpS_region
  simp [wpOpsS, go_sem, recoverD, hu, Try.ntmps31, Exit.thenS, bad]
  rw [show #[Value.pointer (some p)] ++ ((Array.replicate 14 undef).setIfInBounds 3 (Value.iface 58 (.agg #[]))).setIfInBounds 0 (Value.iface 58 (.agg #[])) = #[Value.pointer (some p), Value.iface 58 (.agg #[]), undef, undef, Value.iface 58 (.agg #[]), undef, undef, undef, undef, undef, undef, undef, undef, undef, undef] from rfl]
  refine wpS_of_wp ?_
  have hta := is_bad
  have hc' : (w.alloc (.cells #[] 58)).cell? p = some (.int .i64 x) := (World.cell?_alloc_lt w _ p hp).trans hc
  have hz' : (w.alloc (.cells #[] 58)).frozen? p = false := (World.frozen?_alloc_past _ _ _ hp).trans hz
  go_wp2
  cases c₀
  simp_all [bodyPostS, results, Try.results31]

theorem catch_idle (p : Addr) (w : World) :
    CallsD Try.prog 31 #[.pointer (some p)] .returning w fun e u' w' => e = .returned (.tuple #[]) ∧ u' = .returning ∧ w' = w := by
  refine callsD_of_wpS Try.func31 rfl fun c₀ cs hu => ?_
  apply wpS_seq
  apply wpS_region
  simp [wpOpsS, go_sem, recoverD, hu, Try.ntmps31, Exit.thenS]
  rw [show #[Value.pointer (some p)] ++ ((Array.replicate 14 undef).setIfInBounds 3 Value.nilIface).setIfInBounds 0 Value.nilIface = #[Value.pointer (some p), Value.nilIface, undef, undef, Value.nilIface, undef, undef, undef, undef, undef, undef, undef, undef, undef, undef] from rfl]
  refine wpS_of_wp ?_
  go_wp2
  cases c₀
  simp_all [bodyPostS, results, Try.results31]

/-- What careful leaves of what its function leaves. -/
def CarePost (w : World) (R : Ending → World → Prop) (e : Ending) (w' : World) : Prop :=
  ∃ e1 w1, R e1 w1 ∧ ((e1 = .returned (.tuple #[]) ∧ e = .returned (.int .i64 0) ∧ w' = w1.setCell ⟨w.heap.size, 0, none⟩ (.int .i64 0)) ∨
    (e1 = .panicked bad ∧ e = .returned (.int .i64 3) ∧ w' = (w1.alloc (.cells #[] 58)).setCell ⟨w.heap.size, 0, none⟩ (.int .i64 3)))
/-- What is asked of it. -/
def Careful (w : World) (R : Ending → World → Prop) : Prop :=
  ∀ e w1, R e w1 → (e = .returned (.tuple #[]) ∨ e = .panicked bad) ∧ w1.heap[w.heap.size]? = some (.cells #[.int .i64 0] 23 (0, 0))

set_option maxRecDepth 100000 in
set_option maxHeartbeats 800000 in
theorem careful_22 (a1 a2 : Addr) (w : World) (R : Ending → World → Prop) (h : Calls Try.prog 22 #[.pointer (some a1), .pointer (some a2)] (w.alloc (.cells #[.int .i64 0] 23)) R) (hR : Careful w R) :
    Calls Try.prog 21 #[.func (.func 22) #[] #[.pointer (some a1), .pointer (some a2)]] w (CarePost w R) := by
  have hmf : ∀ (fn : Fn) (first cap : Array Value) (w : World), (Instr.makeFunc fn first cap).run Try.prog w = .ok (.func fn first cap) w := fun _ _ _ _ => rfl
  have Hh := Lib.hid h
  have HR := Lib.hid hR
  clear h hR
  go_enter_defers Try.func21, Try.ntmps21
  go_wp2_with fail
  refine Hh.out.mono ?_
  intro e w1 hr
  obtain ⟨he, hb⟩ := HR.out e w1 hr
  have hlt : w.heap.size < w1.heap.size := (Array.getElem?_eq_some_iff.1 hb).1
  have c0 : w1.cell? ⟨w.heap.size, 0, none⟩ = some (.int .i64 0) := cell_of_row w1 _ 0 _ 23 (0, 0) hb
  have f0 : w1.frozen? ⟨w.heap.size, 0, none⟩ = false := by simp [World.frozen?, hb]
  have Hr := Lib.hid hr
  clear hb hr
  rcases he with rfl | rfl
  · go_wp2
    refine leaves_cons (f := 31) (args := #[.pointer (some ⟨w.heap.size, 0, none⟩)]) (by simp) (by simp [go_sem]) ?_
    refine (catch_idle _ _).mono ?_
    rintro e u' w'' ⟨rfl, rfl, rfl⟩
    simp [Leaves, settle, results, Try.results21, go_sem, c0]
    exact ⟨_, _, Hr.out, .inl ⟨rfl, rfl, rfl⟩⟩
  · go_wp2
    refine leaves_cons (f := 31) (args := #[.pointer (some ⟨w.heap.size, 0, none⟩)]) (by simp) (by simp [go_sem]) ?_
    refine (catch_bad _ 0 _ c0 f0 hlt).mono ?_
    rintro e u' w'' ⟨rfl, rfl, rfl⟩
    have c1 : (w1.alloc (.cells #[] 58)).cell? ⟨w.heap.size, 0, none⟩ = some (.int .i64 0) := (World.cell?_alloc_lt w1 _ _ hlt).trans c0
    have c2 : ((w1.alloc (.cells #[] 58)).setCell ⟨w.heap.size, 0, none⟩ (.int .i64 3)).cell? ⟨w.heap.size, 0, none⟩ = some (.int .i64 3) := World.cell?_setCell_same _ _ _ c1
    simp [Leaves, settle, results, Try.results21, go_sem, c2]
    exact ⟨_, _, Hr.out, .inr ⟨rfl, rfl, rfl⟩⟩
set_option maxRecDepth 100000 in
set_option maxHeartbeats 800000 in
theorem careful_25 (a1 a2 a3 : Addr) (w : World) (R : Ending → World → Prop) (h : Calls Try.prog 25 #[.pointer (some a1), .pointer (some a2), .pointer (some a3)] (w.alloc (.cells #[.int .i64 0] 23)) R) (hR : Careful w R) :
    Calls Try.prog 21 #[.func (.func 25) #[] #[.pointer (some a1), .pointer (some a2), .pointer (some a3)]] w (CarePost w R) := by
  have hmf : ∀ (fn : Fn) (first cap : Array Value) (w : World), (Instr.makeFunc fn first cap).run Try.prog w = .ok (.func fn first cap) w := fun _ _ _ _ => rfl
  have Hh := Lib.hid h
  have HR := Lib.hid hR
  clear h hR
  go_enter_defers Try.func21, Try.ntmps21
  go_wp2_with fail
  refine Hh.out.mono ?_
  intro e w1 hr
  obtain ⟨he, hb⟩ := HR.out e w1 hr
  have hlt : w.heap.size < w1.heap.size := (Array.getElem?_eq_some_iff.1 hb).1
  have c0 : w1.cell? ⟨w.heap.size, 0, none⟩ = some (.int .i64 0) := cell_of_row w1 _ 0 _ 23 (0, 0) hb
  have f0 : w1.frozen? ⟨w.heap.size, 0, none⟩ = false := by simp [World.frozen?, hb]
  have Hr := Lib.hid hr
  clear hb hr
  rcases he with rfl | rfl
  · go_wp2
    refine leaves_cons (f := 31) (args := #[.pointer (some ⟨w.heap.size, 0, none⟩)]) (by simp) (by simp [go_sem]) ?_
    refine (catch_idle _ _).mono ?_
    rintro e u' w'' ⟨rfl, rfl, rfl⟩
    simp [Leaves, settle, results, Try.results21, go_sem, c0]
    exact ⟨_, _, Hr.out, .inl ⟨rfl, rfl, rfl⟩⟩
  · go_wp2
    refine leaves_cons (f := 31) (args := #[.pointer (some ⟨w.heap.size, 0, none⟩)]) (by simp) (by simp [go_sem]) ?_
    refine (catch_bad _ 0 _ c0 f0 hlt).mono ?_
    rintro e u' w'' ⟨rfl, rfl, rfl⟩
    have c1 : (w1.alloc (.cells #[] 58)).cell? ⟨w.heap.size, 0, none⟩ = some (.int .i64 0) := (World.cell?_alloc_lt w1 _ _ hlt).trans c0
    have c2 : ((w1.alloc (.cells #[] 58)).setCell ⟨w.heap.size, 0, none⟩ (.int .i64 3)).cell? ⟨w.heap.size, 0, none⟩ = some (.int .i64 3) := World.cell?_setCell_same _ _ _ c1
    simp [Leaves, settle, results, Try.results21, go_sem, c2]
    exact ⟨_, _, Hr.out, .inr ⟨rfl, rfl, rfl⟩⟩
set_option maxRecDepth 100000 in
set_option maxHeartbeats 800000 in
theorem careful_28 (a1 a2 a3 : Addr) (w : World) (R : Ending → World → Prop) (h : Calls Try.prog 28 #[.pointer (some a1), .pointer (some a2), .pointer (some a3)] (w.alloc (.cells #[.int .i64 0] 23)) R) (hR : Careful w R) :
    Calls Try.prog 21 #[.func (.func 28) #[] #[.pointer (some a1), .pointer (some a2), .pointer (some a3)]] w (CarePost w R) := by
  have hmf : ∀ (fn : Fn) (first cap : Array Value) (w : World), (Instr.makeFunc fn first cap).run Try.prog w = .ok (.func fn first cap) w := fun _ _ _ _ => rfl
  have Hh := Lib.hid h
  have HR := Lib.hid hR
  clear h hR
  go_enter_defers Try.func21, Try.ntmps21
  go_wp2_with fail
  refine Hh.out.mono ?_
  intro e w1 hr
  obtain ⟨he, hb⟩ := HR.out e w1 hr
  have hlt : w.heap.size < w1.heap.size := (Array.getElem?_eq_some_iff.1 hb).1
  have c0 : w1.cell? ⟨w.heap.size, 0, none⟩ = some (.int .i64 0) := cell_of_row w1 _ 0 _ 23 (0, 0) hb
  have f0 : w1.frozen? ⟨w.heap.size, 0, none⟩ = false := by simp [World.frozen?, hb]
  have Hr := Lib.hid hr
  clear hb hr
  rcases he with rfl | rfl
  · go_wp2
    refine leaves_cons (f := 31) (args := #[.pointer (some ⟨w.heap.size, 0, none⟩)]) (by simp) (by simp [go_sem]) ?_
    refine (catch_idle _ _).mono ?_
    rintro e u' w'' ⟨rfl, rfl, rfl⟩
    simp [Leaves, settle, results, Try.results21, go_sem, c0]
    exact ⟨_, _, Hr.out, .inl ⟨rfl, rfl, rfl⟩⟩
  · go_wp2
    refine leaves_cons (f := 31) (args := #[.pointer (some ⟨w.heap.size, 0, none⟩)]) (by simp) (by simp [go_sem]) ?_
    refine (catch_bad _ 0 _ c0 f0 hlt).mono ?_
    rintro e u' w'' ⟨rfl, rfl, rfl⟩
    have c1 : (w1.alloc (.cells #[] 58)).cell? ⟨w.heap.size, 0, none⟩ = some (.int .i64 0) := (World.cell?_alloc_lt w1 _ _ hlt).trans c0
    have c2 : ((w1.alloc (.cells #[] 58)).setCell ⟨w.heap.size, 0, none⟩ (.int .i64 3)).cell? ⟨w.heap.size, 0, none⟩ = some (.int .i64 3) := World.cell?_setCell_same _ _ _ c1
    simp [Leaves, settle, results, Try.results21, go_sem, c2]
    exact ⟨_, _, Hr.out, .inr ⟨rfl, rfl, rfl⟩⟩

/-- Of what was there blocks b and c alone may have turned. -/
structure Only2 (b c : Nat) (w w' : World) : Prop where
  os : w'.os = w.os
  tape : w'.tape = w.tape
  output : w'.output = w.output
  size : w.heap.size ≤ w'.heap.size
  block : ∀ k, k < w.heap.size → k ≠ b → k ≠ c → w'.heap[k]? = w.heap[k]?
theorem Only2.refl (b c : Nat) (w : World) : Only2 b c w w := ⟨rfl, rfl, rfl, Nat.le_refl _, fun _ _ _ _ => rfl⟩
theorem Only2.trans {b c : Nat} {x y z : World} (h : Only2 b c x y) (g : Only2 b c y z) : Only2 b c x z :=
  ⟨g.os.trans h.os, g.tape.trans h.tape, g.output.trans h.output, Nat.le_trans h.size g.size, fun k hk hb hc => (g.block k (by have := h.size; omega) hb hc).trans (h.block k hk hb hc)⟩
theorem Only.two {b : Nat} {x y : World} (h : Only b x y) (c : Nat) : Only2 b c x y := ⟨h.os, h.tape, h.output, h.size, fun k hk hb _ => h.block k hk hb⟩
theorem Only2.snd {b c : Nat} {x y : World} (h : Only2 b c x y) (i : Nat) (u : Value) : Only2 b c x (y.setCell ⟨c, i, none⟩ u) :=
  h.trans ⟨rfl, rfl, rfl, by simp [World.setCell], fun k _ _ hc => Below.heap_setCell _ _ _ _ hc⟩
theorem Only2.drewN {b c : Nat} {x y : World} (h : Only2 b c x y) (q : Nat) : Only2 b c x (y.drewN q) := ⟨h.os, h.tape, h.output, h.size, h.block⟩
theorem Only2.below {b c : Nat} {x y : World} (h : Only2 b c x y) {B : Nat} (hb : B ≤ b) (hc : B ≤ c) (hB : B ≤ x.heap.size) : Below B x y :=
  ⟨h.os, h.tape, h.output, h.size, fun k hk => h.block k (by omega) (by omega) (by omega)⟩
theorem one_cell {w : World} {g : Nat} {v : Value} {t : TypeId} (h : w.heap[g]? = some (.cells #[v] t (0, 0))) : w.cell? ⟨g, 0, none⟩ = some v ∧ w.frozen? ⟨g, 0, none⟩ = false ∧ g < w.heap.size :=
  ⟨cell_of_row w g 0 _ t (0, 0) h, by simp [World.frozen?, h], (Array.getElem?_eq_some_iff.1 h).1⟩
theorem one_set {w : World} {g : Nat} {v : Value} {t : TypeId} (h : w.heap[g]? = some (.cells #[v] t (0, 0))) (u : Value) : (w.setCell ⟨g, 0, none⟩ u).heap[g]? = some (.cells #[u] t (0, 0)) := by
  simp [World.setCell, Array.getElem?_modify, h]

def Take1 (s : ByteArray) (p N M : Nat) (w : World) (e : Ending) (w' : World) : Prop :=
  Only2 N M w w' ∧ ((∃ u n, tk s p = some (u, n) ∧ e = .returned (.tuple #[]) ∧ Cur w' N s n ∧ w'.heap[M]? = some (.cells #[.int .u64 u] 22 (0, 0))) ∨ (tk s p = none ∧ e = .panicked bad))

set_option maxRecDepth 100000 in
set_option maxHeartbeats 800000 in
theorem take1_any (s : ByteArray) (p N C M : Nat) (w : World) (hs : s.size ≤ 140737488351232) (hp : p ≤ s.size) (hc : Cur w N s p) (hC : w.heap[C]? = some (.cells #[.pointer (some ⟨N, 0, none⟩)] 43 (0, 0))) (hM : w.heap[M]? = some (.cells #[.int .u64 0] 22 (0, 0))) (hNM : M ≠ N) :
    Calls Try.prog 22 #[.pointer (some ⟨C, 0, none⟩), .pointer (some ⟨M, 0, none⟩)] w (Take1 s p N M w) := by
  obtain ⟨k0, k1, k2⟩ := one_cell hC
  have HM := Lib.hid hM
  have Hv := Lib.hid (varint_any s p N w hs hp hc)
  have lM := (one_cell hM).2.2
  clear hC hM hc
  go_enter Try.func22, Try.ntmps22
  go_wp2_with fail
  refine Hv.out.mono ?_
  rintro e w1 ⟨ho, ⟨u, n, htk, rfl, hc1⟩ | ⟨htk, rfl⟩⟩
  · have HM1 := Lib.hid ((ho.block M lM hNM).trans HM.out)
    obtain ⟨m0, m1, m2⟩ := one_cell HM1.out
    have Htk := Lib.hid htk
    have Hc1 := Lib.hid hc1
    have Ho := Lib.hid ho
    clear htk hc1 ho
    go_wp2
    go_end0
    exact ⟨(Ho.out.two M).snd _ _, .inl ⟨u, n, Htk.out, rfl, Hc1.out.far (by dsimp only; omega) _, one_set HM1.out _⟩⟩
  · exact ⟨rfl, ho.two M, .inr ⟨htk, rfl⟩⟩
end Go.Proofs.Ytpnieegaemfffaa
