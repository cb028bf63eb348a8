/- The walks: a model read. -/
import Derived.Test.YtkcnpnnflbibiaaDe
import Derived.Defers
import Derived.Recover
set_option linter.unusedVariables false
namespace Go.Proofs.Ytkcnpnnflbibiaa
open Go.RowKit

def decodeE (s : ByteArray) : Except Int Gr :=
  match joinE noStep 7 () s with
  | .error e => .error e
  | .ok (b, had, _) => if had = false then .error 4 else graphE b
/-- The two results. -/
def decG (s : ByteArray) : Gr := match decodeE s with | .ok g => g | .error _ => gNone
def decErr (s : ByteArray) : Int := match decodeE s with | .ok _ => 0 | .error e => e
/-- What Decode leaves. -/
def DecIs (s : ByteArray) (w : World) (e : Ending) (w' : World) : Prop :=
  ∃ name An nn cn Ai ni ci Ao no co At_ nt ct, e = .returned (.tuple #[.agg #[.string name, .slice An nn cn, .slice Ai ni ci, .slice Ao no co, .slice At_ nt ct], .int .i64 (decErr s)]) ∧ Below w.heap.size w w' ∧
    repGr.R w' (fun k => w.heap.size ≤ k ∧ k < w'.heap.size) [.string name, .slice An nn cn, .slice Ai ni ci, .slice Ao no co, .slice At_ nt ct] (decG s)
theorem is_refu (err : Int) (w : World) : (Instr.typeAssert (.iface 54 (.int .i64 err)) 20 54 true).run Try.prog w = .ok (.tuple #[.int .i64 err, .bool true]) w := by kernel_rfl

abbrev zGr : List Value := [.string ⟨#[]⟩, .slice none 0 0, .slice none 0 0, .slice none 0 0, .slice none 0 0]
set_option maxRecDepth 100000 in
set_option maxHeartbeats 1600000 in
theorem dcatch_bad (p q : Nat) (x err : Int) (a0 a1 a2 a3 a4 : Value) (w : World) (hp : w.heap[p]? = some (.cells #[a0, a1, a2, a3, a4] 34 (0, 0))) (hq : w.heap[q]? = some (.cells #[.int .i64 x] 26 (0, 0))) (hpq : p ≠ q) :
    CallsD Try.prog 19 #[.pointer (some ⟨p, 0, none⟩), .pointer (some ⟨q, 0, none⟩)] (.panicking (refu err)) w fun e u' w' =>
      e = .returned (.tuple #[]) ∧ u' = .panicking [{ v := .iface 54 (.int .i64 err), recovered := true }] ∧ w' = (setFrom w p 0 zGr).setCell ⟨q, 0, none⟩ (.int .i64 err) := by
  have p0 : w.cell? ⟨p, 0, none⟩ = some a0 := cell_of_row _ _ 0 _ 34 (0, 0) hp
  have p1 : w.cell? ⟨p, 1, none⟩ = some a1 := cell_of_row _ _ 1 _ 34 (0, 0) hp
  have p2 : w.cell? ⟨p, 2, none⟩ = some a2 := cell_of_row _ _ 2 _ 34 (0, 0) hp
  have p3 : w.cell? ⟨p, 3, none⟩ = some a3 := cell_of_row _ _ 3 _ 34 (0, 0) hp
  have p4 : w.cell? ⟨p, 4, none⟩ = some a4 := cell_of_row _ _ 4 _ 34 (0, 0) hp
  have q0 : w.cell? ⟨q, 0, none⟩ = some (.int .i64 x) := cell_of_row _ _ 0 _ 26 (0, 0) hq
  have pf : ∀ i, w.frozen? ⟨p, i, none⟩ = false := fun i => by simp [World.frozen?, hp]
  have f0 := pf 0
  have f1 := pf 1
  have f2 := pf 2
  have f3 := pf 3
  have f4 := pf 4
  have g0 : w.frozen? ⟨q, 0, none⟩ = false := by simp [World.frozen?, hq]
  have hqp : q ≠ p := fun e => hpq e.symm
  clear hp hq pf
  refine callsD_of_wpS Try.func19 rfl fun c₀ cs hu => ?_
  apply wpS_seq
  apply wpS_region
  simp [wpOpsS, go_sem, recoverD, hu, Try.ntmps19, Exit.thenS, refu]
  rw [show #[Value.pointer (some ⟨p, 0, none⟩), Value.pointer (some ⟨q, 0, none⟩)] ++ ((Array.replicate 16 undef).setIfInBounds 3 (Value.iface 54 (.int .i64 err))).setIfInBounds 0 (Value.iface 54 (.int .i64 err)) = #[Value.pointer (some ⟨p, 0, none⟩), Value.pointer (some ⟨q, 0, none⟩), Value.iface 54 (.int .i64 err), undef, undef, Value.iface 54 (.int .i64 err), undef, undef, undef, undef, undef, undef, undef, undef, undef, undef, undef, undef] from rfl]
  refine wpS_of_wp ?_
  have hta := is_refu err
  go_wp2
  cases c₀
  simp_all [bodyPostS, results, Try.results19, setFrom]
theorem dcatch_idle (p q : Addr) (w : World) :
    CallsD Try.prog 19 #[.pointer (some p), .pointer (some q)] .returning w fun e u' w' => e = .returned (.tuple #[]) ∧ u' = .returning ∧ w' = w := by
  refine callsD_of_wpS Try.func19 rfl fun c₀ cs hu => ?_
  apply wpS_seq
  apply wpS_region
  simp [wpOpsS, go_sem, recoverD, hu, Try.ntmps19, Exit.thenS]
  rw [show #[Value.pointer (some p), Value.pointer (some q)] ++ ((Array.replicate 16 undef).setIfInBounds 3 Value.nilIface).setIfInBounds 0 Value.nilIface = #[Value.pointer (some p), Value.pointer (some q), Value.nilIface, undef, undef, Value.nilIface, undef, undef, undef, undef, undef, undef, undef, undef, undef, undef, undef, undef] from rfl]
  refine wpS_of_wp ?_
  go_wp2
  cases c₀
  simp_all [bodyPostS, results, Try.results19]

theorem rep_none (w : World) (Z : Nat → Prop) : repGr.R w Z zGr gNone := ⟨_, _, _, _, rfl, isSlc_nil _ _ _, isSlc_nil _ _ _, isSlc_nil _ _ _, isSlc_nil _ _ _⟩
theorem dec_no {s : ByteArray} {err : Int} (h : decodeE s = .error err) {w w' : World} (hb : Below w.heap.size w w') : DecIs s w (.returned (.tuple #[.agg #[.string ⟨#[]⟩, .slice none 0 0, .slice none 0 0, .slice none 0 0, .slice none 0 0], .int .i64 err])) w' := by
  refine ⟨⟨#[]⟩, none, 0, 0, none, 0, 0, none, 0, 0, none, 0, 0, ?_, hb, ?_⟩
  · unfold decErr; rw [h]
  · unfold decG; rw [h]; exact rep_none _ _
/-- A panic of the reader's, caught. -/
theorem dec_caught {s : ByteArray} {w w1 : World} {err : Int} (Hno : Hid (decodeE s = .error err)) (hb : Below w.heap.size w w1) (hz : w.heap.size + 2 ≤ w1.heap.size) {x : Int} {c0 c1 c2 c3 c4 : Value} (hp : w1.heap[w.heap.size]? = some (.cells #[c0, c1, c2, c3, c4] 34 (0, 0))) (hq : w1.heap[w.heap.size + 1]? = some (.cells #[.int .i64 x] 26 (0, 0)))
    (a0 a1 s4 s5 s7 s8 s9 s10 s11 s12 s13 s14 s15 : Value) :
    bodyPostD Try.prog Try.f9 (DecIs s w) (.panic (refu err)) { tmps := #[a0, a1, .pointer (some ⟨w.heap.size, 0, none⟩), .pointer (some ⟨w.heap.size + 1, 0, none⟩), s4, s5, .func (.func 19) #[] #[.pointer (some ⟨w.heap.size, 0, none⟩), .pointer (some ⟨w.heap.size + 1, 0, none⟩)], s7, s8, s9, s10, s11, s12, s13, s14, s15], defers := [{ target := .fn (.func 19) #[.pointer (some ⟨w.heap.size, 0, none⟩), .pointer (some ⟨w.heap.size + 1, 0, none⟩)], args := #[] }] } w1 := by
  refine leaves_cons (f := 19) (args := #[.pointer (some ⟨w.heap.size, 0, none⟩), .pointer (some ⟨w.heap.size + 1, 0, none⟩)]) (by simp) (by simp [go_sem]) ?_
  refine (dcatch_bad _ _ x err _ _ _ _ _ _ hp hq (by omega)).mono ?_
  rintro e u' w'' ⟨rfl, rfl, rfl⟩
  obtain ⟨k1, k2, _⟩ := setFrom_keep w.heap.size zGr 0 w1
  have hP := setFrom_heap 34 w.heap.size zGr 0 w1 _ hp
  have hP2 := (Below.heap_setCell (setFrom w1 w.heap.size 0 zGr) ⟨w.heap.size + 1, 0, none⟩ (.int .i64 err) w.heap.size (by simp)).trans hP
  have hQ := one_set ((k1 (w.heap.size + 1) (by omega)).trans hq) (.int .i64 err)
  have hfin : Below w.heap.size w ((setFrom w1 w.heap.size 0 zGr).setCell ⟨w.heap.size + 1, 0, none⟩ (.int .i64 err)) := (hb.trans (setFrom_below (Nat.le_refl _) zGr 0 w1)).setCell (by simp) _
  generalize (setFrom w1 w.heap.size 0 zGr).setCell ⟨w.heap.size + 1, 0, none⟩ (.int .i64 err) = W at hP2 hQ hfin ⊢
  simp only [putAll] at hP2
  have p0 : W.cell? ⟨w.heap.size, 0, none⟩ = some (.string ⟨#[]⟩) := cell_of_row _ _ 0 _ 34 (0, 0) hP2
  have p1 : W.cell? ⟨w.heap.size, 1, none⟩ = some (.slice none 0 0) := cell_of_row _ _ 1 _ 34 (0, 0) hP2
  have p2 : W.cell? ⟨w.heap.size, 2, none⟩ = some (.slice none 0 0) := cell_of_row _ _ 2 _ 34 (0, 0) hP2
  have p3 : W.cell? ⟨w.heap.size, 3, none⟩ = some (.slice none 0 0) := cell_of_row _ _ 3 _ 34 (0, 0) hP2
  have p4 : W.cell? ⟨w.heap.size, 4, none⟩ = some (.slice none 0 0) := cell_of_row _ _ 4 _ 34 (0, 0) hP2
  have q0 : W.cell? ⟨w.heap.size + 1, 0, none⟩ = some (.int .i64 err) := cell_of_row _ _ 0 _ 26 (0, 0) hQ
  clear hP hP2 hQ k1 k2 hp hq hb
  simp [Leaves, settle, results, Try.results9, go_sem, p0, p1, p2, p3, p4, q0]
  exact dec_no Hno.out hfin
set_option maxRecDepth 100000 in
set_option maxHeartbeats 1600000 in
theorem decode_any (s : ByteArray) (w : World) (hs : s.size ≤ 140737488351232) : Calls Try.prog 9 #[.string s] w (DecIs s w) := by
  have hmf : ∀ (fn : Fn) (first cap : Array Value) (w : World), (Instr.makeFunc fn first cap).run Try.prog w = .ok (.func fn first cap) w := fun _ _ _ _ => rfl
  have hb0 : Below w.heap.size w ((w.alloc (.cells zGr.toArray 34)).alloc (.cells #[.int .i64 0] 26)) := ((Below.refl _ _).alloc (Nat.le_refl _) _).alloc (by simp) _
  have hg0 := (Below.heap_alloc (w.alloc (.cells zGr.toArray 34)) (.cells #[.int .i64 0] 26) w.heap.size (by simp)).trans (heap_alloc_new w (.cells zGr.toArray 34))
  have he0 := heap_second w (.cells zGr.toArray 34) (.cells #[.int .i64 0] 26) (w.heap.size + 1) rfl
  have hz0 : ((w.alloc (.cells zGr.toArray 34)).alloc (.cells #[.int .i64 0] 26)).heap.size = w.heap.size + 2 := by simp
  have HG := Lib.hid hg0
  have HE := Lib.hid he0
  have HB := Lib.hid hb0
  have HZ := Lib.hid hz0
  have HJ := Lib.hid (joined_p s 7 ((w.alloc (.cells zGr.toArray 34)).alloc (.cells #[.int .i64 0] 26)) hs)
  clear hb0 hg0 he0 hz0
  go_enter_defers Try.func9, Try.ntmps9
  go_wp2_with fail
  refine HJ.out.mono ?_
  rintro e w1 ⟨hb1, ⟨b, had, hj, rfl⟩ | ⟨err, hj, rfl⟩⟩
  · have z1 : w.heap.size + 2 ≤ w1.heap.size := by have := hb1.size; rw [HZ.out] at this; exact this
    have G1 := (hb1.block w.heap.size (by rw [HZ.out]; omega)).trans HG.out
    have E1 := (hb1.block (w.heap.size + 1) (by rw [HZ.out]; omega)).trans HE.out
    have HB1 := Lib.hid (HB.out.trans (hb1.mono HB.out.size))
    have hbz := joinE_size hj
    dsimp only at hbz
    cases had with
    | false =>
      have Hno := Lib.hid (show decodeE s = .error 4 by unfold decodeE; rw [hj]; rfl)
      have HG1 := Lib.hid G1
      have HE1 := Lib.hid E1
      clear hj hb1 HJ G1 E1
      go_wp2_with fail
      refine (must_no _ _).mono ?_
      rintro e w3 ⟨rfl, rfl⟩
      go_wp2
      exact dec_caught Hno HB1.out z1 HG1.out HE1.out _ _ _ _ _ _ _ _ _ _ _ _ _
    | true =>
      have Hd := Lib.hid (show decodeE s = graphE b by unfold decodeE; rw [hj]; rfl)
      have HG1 := Lib.hid G1
      have HE1 := Lib.hid E1
      have HGr := Lib.hid (graph_any b w1 (by omega))
      clear hj hb1 HJ G1 E1
      go_wp2_with fail
      refine (must_yes _ _).mono ?_
      rintro e w3 ⟨rfl, rfl⟩
      go_wp2_with fail
      refine HGr.out.mono ?_
      rintro e w2 ⟨hb2, ⟨g, cs, hg, rfl, hR⟩ | ⟨err, hg, rfl⟩⟩
      · obtain ⟨v1, v2, v3, v4, rfl, r1, r2, r3, r4⟩ := hR
        obtain ⟨A1, n1, c1, rfl, _⟩ := id r1
        obtain ⟨A2, n2, c2, rfl, _⟩ := id r2
        obtain ⟨A3, n3, c3, rfl, _⟩ := id r3
        obtain ⟨A4, n4, c4, rfl, _⟩ := id r4
        have z2 := hb2.size
        have G2 := (hb2.block w.heap.size (by omega)).trans HG1.out
        have E2 := (hb2.block (w.heap.size + 1) (by omega)).trans HE1.out
        have HB2 := Lib.hid (HB1.out.trans (hb2.mono HB1.out.size))
        have Hfin := Lib.hid (fin_row repGr (B := w.heap.size) (cs := [.string g.name, .slice A1 n1 c1, .slice A2 n2 c2, .slice A3 n3 c3, .slice A4 n4 c4]) G2 (by simp [putAll]) HB2.out (Nat.le_refl _) ⟨_, _, _, _, rfl, r1, r2, r3, r4⟩ (fun k hk => ⟨by omega, by omega, hk.2⟩))
        have HRR := Lib.hid (show repGr.R w2 (fun k => w1.heap.size ≤ k ∧ k < w2.heap.size) [.string g.name, .slice A1 n1 c1, .slice A2 n2 c2, .slice A3 n3 c3, .slice A4 n4 c4] g from ⟨_, _, _, _, rfl, r1, r2, r3, r4⟩)
        have Hok := Lib.hid (show decodeE s = .ok g by rw [Hd.out, hg])
        have c0 : w2.cell? ⟨w.heap.size, 0, none⟩ = some (.string ⟨#[]⟩) := cell_of_row _ _ 0 _ 34 (0, 0) G2
        have c1_ : w2.cell? ⟨w.heap.size, 1, none⟩ = some (.slice none 0 0) := cell_of_row _ _ 1 _ 34 (0, 0) G2
        have c2_ : w2.cell? ⟨w.heap.size, 2, none⟩ = some (.slice none 0 0) := cell_of_row _ _ 2 _ 34 (0, 0) G2
        have c3_ : w2.cell? ⟨w.heap.size, 3, none⟩ = some (.slice none 0 0) := cell_of_row _ _ 3 _ 34 (0, 0) G2
        have c4_ : w2.cell? ⟨w.heap.size, 4, none⟩ = some (.slice none 0 0) := cell_of_row _ _ 4 _ 34 (0, 0) G2
        have e0 : w2.cell? ⟨w.heap.size + 1, 0, none⟩ = some (.int .i64 0) := cell_of_row _ _ 0 _ 26 (0, 0) E2
        have ff : ∀ i, w2.frozen? ⟨w.heap.size, i, none⟩ = false := fun i => by simp [World.frozen?, G2]
        have f0 := ff 0
        have f1 := ff 1
        have f2 := ff 2
        have f3 := ff 3
        have f4 := ff 4
        have fe : w2.frozen? ⟨w.heap.size + 1, 0, none⟩ = false := by simp [World.frozen?, E2]
        have HE2 := Lib.hid E2
        clear ff G2 E2 hb2 hg r1 r2 r3 r4
        go_wp2
        have hfin := Hfin.out
        have hsf : setFrom w2 w.heap.size 0 [.string g.name, .slice A1 n1 c1, .slice A2 n2 c2, .slice A3 n3 c3, .slice A4 n4 c4] = (((((w2.setCell ⟨w.heap.size, 0, none⟩ (.string g.name)).setCell ⟨w.heap.size, 1, none⟩ (.slice A1 n1 c1)).setCell ⟨w.heap.size, 2, none⟩ (.slice A2 n2 c2)).setCell ⟨w.heap.size, 3, none⟩ (.slice A3 n3 c3)).setCell ⟨w.heap.size, 4, none⟩ (.slice A4 n4 c4)) := rfl
        obtain ⟨hqk, hqz, _⟩ := setFrom_keep w.heap.size [.string g.name, .slice A1 n1 c1, .slice A2 n2 c2, .slice A3 n3 c3, .slice A4 n4 c4] 0 w2
        rw [hsf] at hfin hqk hqz
        generalize (((((w2.setCell ⟨w.heap.size, 0, none⟩ (.string g.name)).setCell ⟨w.heap.size, 1, none⟩ (.slice A1 n1 c1)).setCell ⟨w.heap.size, 2, none⟩ (.slice A2 n2 c2)).setCell ⟨w.heap.size, 3, none⟩ (.slice A3 n3 c3)).setCell ⟨w.heap.size, 4, none⟩ (.slice A4 n4 c4)) = W3 at hfin hqk hqz ⊢
        obtain ⟨G3, B3, -⟩ := hfin
        have G4 := (Below.heap_setCell W3 ⟨w.heap.size + 1, 0, none⟩ (.int .i64 0) w.heap.size (by simp)).trans G3
        have E4 := one_set ((hqk (w.heap.size + 1) (by omega)).trans HE2.out) (.int .i64 0)
        have B4 := B3.setCell (p := ⟨w.heap.size + 1, 0, none⟩) (by simp) (.int .i64 0)
        refine leaves_cons (f := 19) (args := #[.pointer (some ⟨w.heap.size, 0, none⟩), .pointer (some ⟨w.heap.size + 1, 0, none⟩)]) (by simp) (by simp [go_sem]) ?_
        refine (dcatch_idle _ _ _).mono ?_
        rintro e u' w'' ⟨rfl, rfl, rfl⟩
        have hz4 : (W3.setCell ⟨w.heap.size + 1, 0, none⟩ (.int .i64 0)).heap.size = w2.heap.size := by rw [← hqz]; simp [World.setCell]
        have R4 := repGr.keep (Z' := fun k => w.heap.size ≤ k ∧ k < (W3.setCell ⟨w.heap.size + 1, 0, none⟩ (.int .i64 0)).heap.size) HRR.out (w' := W3.setCell ⟨w.heap.size + 1, 0, none⟩ (.int .i64 0)) (fun k hk => (Below.heap_setCell _ _ _ _ (by dsimp only; omega)).trans (hqk k (by omega))) (fun k hk => ⟨by omega, by rw [hz4]; exact hk.2⟩)
        clear hz4 hqz hqk G3 B3 hsf
        generalize W3.setCell ⟨w.heap.size + 1, 0, none⟩ (.int .i64 0) = W at G4 E4 B4 R4 ⊢
        have p0 : W.cell? ⟨w.heap.size, 0, none⟩ = some (.string g.name) := cell_of_row _ _ 0 _ 34 (0, 0) G4
        have p1 : W.cell? ⟨w.heap.size, 1, none⟩ = some (.slice A1 n1 c1) := cell_of_row _ _ 1 _ 34 (0, 0) G4
        have p2 : W.cell? ⟨w.heap.size, 2, none⟩ = some (.slice A2 n2 c2) := cell_of_row _ _ 2 _ 34 (0, 0) G4
        have p3 : W.cell? ⟨w.heap.size, 3, none⟩ = some (.slice A3 n3 c3) := cell_of_row _ _ 3 _ 34 (0, 0) G4
        have p4 : W.cell? ⟨w.heap.size, 4, none⟩ = some (.slice A4 n4 c4) := cell_of_row _ _ 4 _ 34 (0, 0) G4
        have q0 : W.cell? ⟨w.heap.size + 1, 0, none⟩ = some (.int .i64 0) := cell_of_row _ _ 0 _ 26 (0, 0) E4
        clear G4 E4 Hfin c0 c1_ c2_ c3_ c4_ e0 f0 f1 f2 f3 f4 fe
        simp [Leaves, settle, results, Try.results9, go_sem, p0, p1, p2, p3, p4, q0]
        refine ⟨g.name, A1, n1, c1, A2, n2, c2, A3, n3, c3, A4, n4, c4, ?_, B4, ?_⟩
        · unfold decErr; rw [Hok.out]
        · unfold decG; rw [Hok.out]; exact R4
      · have z2 := hb2.size
        have HG2 := Lib.hid ((hb2.block w.heap.size (by omega)).trans HG1.out)
        have HE2 := Lib.hid ((hb2.block (w.heap.size + 1) (by omega)).trans HE1.out)
        have HB2 := Lib.hid (HB1.out.trans (hb2.mono HB1.out.size))
        have Hno := Lib.hid (show decodeE s = .error err by rw [Hd.out, hg])
        have z3 : w.heap.size + 2 ≤ w2.heap.size := by omega
        clear hb2 hg
        go_wp2
        exact dec_caught Hno HB2.out z3 HG2.out HE2.out _ _ _ _ _ _ _ _ _ _ _ _ _
  · have z1 : w.heap.size + 2 ≤ w1.heap.size := by have := hb1.size; rw [HZ.out] at this; exact this
    have G1 := (hb1.block w.heap.size (by rw [HZ.out]; omega)).trans HG.out
    have E1 := (hb1.block (w.heap.size + 1) (by rw [HZ.out]; omega)).trans HE.out
    have B1 := HB.out.trans (hb1.mono HB.out.size)
    have hno : decodeE s = .error err := by unfold decodeE; rw [hj]
    have Hno := Lib.hid hno
    have HB1 := Lib.hid B1
    have HG1 := Lib.hid G1
    have HE1 := Lib.hid E1
    clear hno hj hb1 HJ G1 E1 B1
    go_wp2
    exact dec_caught Hno HB1.out z1 HG1.out HE1.out _ _ _ _ _ _ _ _ _ _ _ _ _
end Go.Proofs.Ytkcnpnnflbibiaa
