import Derived.Test.YtbilddeepnnogaaGreatDoorLam
import Derived.Defers
import Derived.Deep.RegionHeld3
set_option linter.unusedVariables false
set_option linter.unusedSimpArgs false
/- Types and shapes: what a node makes. -/
section
set_option linter.unusedVariables false
set_option maxRecDepth 100000
namespace Go.Proofs.YtbilddeepnnogaaGreatDoor
open Go.RowKit Go.Shelf

/-- The slice at A holds m values of the type Int32, of x elements. -/
def InV (w : World) (A : Option Addr) (m : Nat) (x : Int) : Prop := ∃ b off, A = some ⟨b, off, none⟩ ∧ b < w.heap.size ∧ ∀ j, j < m → ∃ nm Ad cd, w.cell? ⟨b, off + j * 3, none⟩ = some (.string nm) ∧ w.cell? ⟨b, off + j * 3 + 1, none⟩ = some (.int .i64 6) ∧ w.cell? ⟨b, off + j * 3 + 2, none⟩ = some (.slice Ad 1 cd) ∧ One w Ad x
theorem InV.below {w w' : World} {A : Option Addr} {m : Nat} {x : Int} (h : InV w A m x) (hb : Below w.heap.size w w') : InV w' A m x := by
  obtain ⟨b, off, rfl, h1, h2⟩ := h
  refine ⟨b, off, rfl, Nat.lt_of_lt_of_le h1 hb.size, fun j hj => ?_⟩
  obtain ⟨nm, Ad, cd, q0, q1, q2, q3⟩ := h2 j hj
  exact ⟨nm, Ad, cd, (hb.cell (p := ⟨b, _, none⟩) h1).trans q0, (hb.cell (p := ⟨b, _, none⟩) h1).trans q1, (hb.cell (p := ⟨b, _, none⟩) h1).trans q2, q3.below hb⟩
theorem rule_true (w : World) : Calls Tryz.prog 138 #[.bool true] w fun e w' => e = .returned (.tuple #[]) ∧ w' = w := by
  go_enter Tryz.func138, Tryz.ntmps138
  go_wp2
  go_end0
  exact ⟨rfl, rfl⟩
theorem good_ok (w : World) : Calls Tryz.prog 137 #[.int .i64 0] w fun e w' => e = .returned (.tuple #[]) ∧ w' = w := by
  go_enter Tryz.func137, Tryz.ntmps137
  go_wp2
  go_end0
  exact ⟨rfl, rfl⟩
theorem sm0 : Sm 0 := ⟨by omega, by omega⟩
theorem unary0 (op : ByteArray) (ho : Ops1 op) (w : World) : Calls Tryz.prog 176 #[.string op, .int .i64 6, .int .i64 0] w fun e w' => e = .returned (.tuple #[.int .i64 0, .int .i64 0]) ∧ w' = w := by
  rcases ho with rfl | rfl | rfl
  · exact unary_neg 0 w sm0
  · exact unary_abs 0 w sm0
  · exact unary_idn 0 w sm0
set_option maxHeartbeats 1600000 in
theorem typ_one (op nm out : ByteArray) (A B : Option Addr) (c n d : Nat) (x : Int) (w : World) (h : InV w B 1 x) (ho : Ops1 op) :
    Calls Tryz.prog 139 #[.agg #[.string op, .string nm, .slice A n c, .string out, .slice none 0 0, .slice B 1 d]] w fun e w' => e = .returned (.int .i64 6) ∧ Below w.heap.size w w' := by
  obtain ⟨b, off, rfl, hb, hc⟩ := h
  obtain ⟨nm0, Ad, cd, q0, q1, q2, q3⟩ := hc 0 (by omega)
  simp only [Nat.zero_mul, Nat.add_zero] at q0 q1 q2
  have hU := unary0 op ho
  have hR := rule_true
  clear hc
  rcases ho with rfl | rfl | rfl
  all_goals
    go_enter Tryz.func139, Tryz.ntmps139
    go_wp2_with (first | (go_at_call 176; refine (hU _).mono ?_; rintro e w' ⟨rfl, rfl⟩) | (go_at_call 138; refine (hR _).mono ?_; rintro e w' ⟨rfl, rfl⟩))
    go_ret
    exact ⟨rfl, below_new _ _⟩
set_option maxHeartbeats 1600000 in
theorem dims_one (op nm out : ByteArray) (A B : Option Addr) (c n d : Nat) (x : Int) (w : World) (h : InV w B 1 x) (ho : Ops1 op) :
    Calls Tryz.prog 140 #[.agg #[.string op, .string nm, .slice A n c, .string out, .slice none 0 0, .slice B 1 d]] w fun e w' => ∃ D k, e = .returned (.slice D 1 k) ∧ One w' D x ∧ Below w.heap.size w w' := by
  obtain ⟨b, off, rfl, hb, hc⟩ := h
  obtain ⟨nm0, Ad, cd, q0, q1, q2, q3⟩ := hc 0 (by omega)
  simp only [Nat.zero_mul, Nat.add_zero] at q0 q1 q2
  have Q3 := Lib.hid q3
  clear hc q3
  rcases ho with rfl | rfl | rfl
  all_goals
    go_enter Tryz.func140, Tryz.ntmps140
    go_wp2_with fail
    go_ret
    exact ⟨_, _, rfl, Q3.out.below (below_new _ _), below_new _ _⟩
set_option maxHeartbeats 1600000 in
theorem mthen_any (op nm out : ByteArray) (A B : Option Addr) (c n d m : Nat) (t : Int) (w : World) :
    Calls Tryz.prog 141 #[.agg #[.string op, .string nm, .slice A n c, .string out, .slice none 0 0, .slice B m d], .int .i64 t] w fun e w' => e = .returned (.tuple #[]) ∧ Below w.heap.size w w' := by
  go_enter Tryz.func141, Tryz.ntmps141
  go_wp2_with fail
  refine (then_none _ _ _ _ _ _ _).mono ?_
  rintro e w2 ⟨rfl, hb⟩
  have h2 := (below_new w (.cells #[.string op, .string nm, .slice A n c, .string out, .slice none 0 0, .slice B m d] 246)).trans (hb.mono (by simp))
  clear hb
  go_wp2_with fail
  refine wp_loop_rounds 1 ?_
  rw [rounds_succ]
  go_wp2_with fail
  go_end0
  exact ⟨rfl, h2⟩
set_option maxHeartbeats 1600000 in
theorem alike_two (op nm out : ByteArray) (A B : Option Addr) (c n d : Nat) (x : Int) (w : World) (h : InV w B 2 x) :
    Calls Tryz.prog 208 #[.agg #[.string op, .string nm, .slice A n c, .string out, .slice none 0 0, .slice B 2 d], .int .i64 6] w fun e w' => e = .returned (.bool true) ∧ Below w.heap.size w w' := by
  obtain ⟨b, off, rfl, hb, hc⟩ := h
  obtain ⟨nm0, Ad, cd, q0, q1, q2, q3⟩ := hc 0 (by omega)
  obtain ⟨nm1, Ae, ce, p0, p1, p2, p3⟩ := hc 1 (by omega)
  simp only [Nat.zero_mul, Nat.add_zero, Nat.one_mul] at q0 q1 q2 p0 p1 p2
  clear hc q3 p3
  have n1 : b < w.heap.size + 1 := by omega
  have n2 : b < w.heap.size + 1 + 1 := by omega
  have n3 : b < w.heap.size + 1 + 1 + 1 := by omega
  go_enter Tryz.func208, Tryz.ntmps208
  go_wp2
  refine wp_loop_rounds 3 ?_
  rw [rounds_succ]
  go_wp2
  rw [rounds_succ]
  go_wp2
  rw [rounds_succ]
  go_wp2
  go_ret
  exact ⟨rfl, (below_n4 _ _ _ _ _).1⟩
set_option maxHeartbeats 1600000 in
theorem typ_add (nm out : ByteArray) (A B : Option Addr) (c n d : Nat) (x : Int) (w : World) (h : InV w B 2 x) :
    Calls Tryz.prog 139 #[.agg #[.string ⟨#[65, 100, 100]⟩, .string nm, .slice A n c, .string out, .slice none 0 0, .slice B 2 d]] w fun e w' => e = .returned (.int .i64 6) ∧ Below w.heap.size w w' := by
  have hI := Lib.hid h
  obtain ⟨b, off, rfl, hb, hc⟩ := h
  obtain ⟨nm0, Ad, cd, q0, q1, q2, q3⟩ := hc 0 (by omega)
  simp only [Nat.zero_mul, Nat.add_zero] at q0 q1 q2
  have hU := fun w => binary_add 0 0 w sm0 sm0
  have hR := rule_true
  clear hc q3
  have n1 : b < w.heap.size + 1 := by omega
  have bx := below_new w (.cells #[.string ⟨#[65, 100, 100]⟩, .string nm, .slice A n c, .string out, .slice none 0 0, .slice (some ⟨b, off, none⟩) 2 d] 246)
  have hA := alike_two ⟨#[65, 100, 100]⟩ nm out A (some ⟨b, off, none⟩) c n d x _ (hI.out.below bx)
  go_enter Tryz.func139, Tryz.ntmps139
  go_wp2_with (first | (go_at_call 207; refine (hU _).mono ?_; rintro e w' ⟨rfl, rfl⟩) | (go_at_call 138; refine (hR _).mono ?_; rintro e w' ⟨rfl, rfl⟩) | (go_at_call 208; refine hA.mono ?_; rintro e w2 ⟨rfl, hb2⟩))
  go_ret
  exact ⟨rfl, bx.trans (hb2.mono (by simp))⟩
theorem spread_any (w : World) (A B : Option Addr) (c c' : Nat) (x : Int) (h : One w A x) (g : One w B x) (h1 : 1 ≤ x) (h2 : x ≤ 30) :
    Calls Tryz.prog 210 #[.slice A 1 c, .slice B 1 c'] w fun e w' => ∃ D k, e = .returned (.slice D 1 k) ∧ One w' D x ∧ Below w.heap.size w w' := by
  have hB := broad1_any w A B c c' x h g h1 h2
  have hG := good_ok
  go_enter Tryz.func210, Tryz.ntmps210
  go_wp2_with (first | (go_at_call 274; refine hB.mono ?_; rintro e w' ⟨D, k, rfl, hn, hb⟩) | (go_at_call 137; refine (hG _).mono ?_; rintro e w' ⟨rfl, rfl⟩))
  go_ret
  exact ⟨_, _, rfl, hn.one, hb⟩
set_option maxHeartbeats 1600000 in
theorem dims_add (nm out : ByteArray) (A B : Option Addr) (c n d : Nat) (x : Int) (w : World) (h : InV w B 2 x) (h1 : 1 ≤ x) (h2 : x ≤ 30) :
    Calls Tryz.prog 140 #[.agg #[.string ⟨#[65, 100, 100]⟩, .string nm, .slice A n c, .string out, .slice none 0 0, .slice B 2 d]] w fun e w' => ∃ D k, e = .returned (.slice D 1 k) ∧ One w' D x ∧ Below w.heap.size w w' := by
  obtain ⟨b, off, rfl, hb, hc⟩ := h
  obtain ⟨nm0, Ad, cd, q0, q1, q2, q3⟩ := hc 0 (by omega)
  obtain ⟨nm1, Ae, ce, p0, p1, p2, p3⟩ := hc 1 (by omega)
  simp only [Nat.zero_mul, Nat.add_zero, Nat.one_mul] at q0 q1 q2 p0 p1 p2
  have Q3 := Lib.hid q3
  have P3 := Lib.hid p3
  clear hc q3 p3
  have n1 : b < w.heap.size + 1 := by omega
  go_enter Tryz.func140, Tryz.ntmps140
  go_wp2_with fail
  have bx := below_new w (.cells #[.string ⟨#[65, 100, 100]⟩, .string nm, .slice A n c, .string out, .slice none 0 0, .slice (some ⟨b, off, none⟩) 2 d] 246)
  refine (spread_any _ _ _ _ _ x (Q3.out.below bx) (P3.out.below bx) h1 h2).mono ?_
  rintro e w2 ⟨D, k, rfl, ho, hb2⟩
  go_wp2_with fail
  go_ret
  exact ⟨_, _, rfl, ho, bx.trans (hb2.mono (by simp))⟩
end Go.Proofs.YtbilddeepnnogaaGreatDoor
end
/- Types and shapes: a node's value. -/
section
set_option linter.unusedVariables false
set_option maxRecDepth 100000
namespace Go.Proofs.YtbilddeepnnogaaGreatDoor
open Go.RowKit Go.Shelf

set_option maxHeartbeats 800000 in
theorem ocatch_idle (p q : Addr) (w : World) :
    CallsD Tryz.prog 136 #[.pointer (some p), .pointer (some q)] .returning w fun e u' w' => e = .returned (.tuple #[]) ∧ u' = .returning ∧ w' = w := by
  refine callsD_of_wpS Tryz.func136 rfl fun c₀ cs hu => ?_
  apply wpS_seq
  apply wpS_region
  simp [wpOpsS, go_sem, recoverD, hu, Tryz.ntmps136, Exit.thenS]
  rw [show #[Value.pointer (some p), Value.pointer (some q)] ++ ((Array.replicate 16 undef).setIfInBounds 3 Value.nilIface).setIfInBounds 0 Value.nilIface = #[Value.pointer (some p), Value.pointer (some q), Value.nilIface, undef, undef, Value.nilIface, undef, undef, undef, undef, undef, undef, undef, undef, undef, undef, undef, undef] from rfl]
  refine wpS_of_wp ?_
  go_wp2
  cases c₀
  simp_all [bodyPostS, results, Tryz.results136]
theorem typ_nd (op nm out : ByteArray) (A B : Option Addr) (c n d m : Nat) (x : Int) (w : World) (h : InV w B m x) (ho : NdOp op m) :
    Calls Tryz.prog 139 #[.agg #[.string op, .string nm, .slice A n c, .string out, .slice none 0 0, .slice B m d]] w fun e w' => e = .returned (.int .i64 6) ∧ Below w.heap.size w w' := by
  rcases ho with ⟨h1, rfl⟩ | ⟨rfl, rfl⟩
  · exact typ_one op nm out A B c n d x w h h1
  · exact typ_add nm out A B c n d x w h
theorem dims_nd (op nm out : ByteArray) (A B : Option Addr) (c n d m : Nat) (x : Int) (w : World) (h : InV w B m x) (ho : NdOp op m) (h1 : 1 ≤ x) (h2 : x ≤ 30) :
    Calls Tryz.prog 140 #[.agg #[.string op, .string nm, .slice A n c, .string out, .slice none 0 0, .slice B m d]] w fun e w' => ∃ D k, e = .returned (.slice D 1 k) ∧ One w' D x ∧ Below w.heap.size w w' := by
  rcases ho with ⟨h3, rfl⟩ | ⟨rfl, rfl⟩
  · exact dims_one op nm out A B c n d x w h h3
  · exact dims_add nm out A B c n d x w h h1 h2
theorem cells6 {w : World} {g : Nat} {t : TypeId} {c0 c1 c2 c3 c4 c5 : Value} (h : w.heap[g]? = some (.cells #[c0, c1, c2, c3, c4, c5] t (0, 0))) : w.cell? ⟨g, 0, none⟩ = some c0 ∧ w.cell? ⟨g, 1, none⟩ = some c1 ∧ w.cell? ⟨g, 2, none⟩ = some c2 ∧ w.cell? ⟨g, 3, none⟩ = some c3 ∧ w.cell? ⟨g, 4, none⟩ = some c4 ∧ w.cell? ⟨g, 5, none⟩ = some c5 :=
  ⟨cell_of_row _ _ 0 _ t (0, 0) h, cell_of_row _ _ 1 _ t (0, 0) h, cell_of_row _ _ 2 _ t (0, 0) h, cell_of_row _ _ 3 _ t (0, 0) h, cell_of_row _ _ 4 _ t (0, 0) h, cell_of_row _ _ 5 _ t (0, 0) h⟩
def zVlO : Obj := .cells #[.string ⟨#[]⟩, .int .i64 0, .slice none 0 0] 28
def ndO (op nm out : ByteArray) (A : Option Addr) (m c : Nat) : Obj := .cells #[.string op, .string nm, .slice A m c, .string out, .slice none 0 0] 37
set_option maxHeartbeats 3200000 in
theorem out_any (op nm out : ByteArray) (A B : Option Addr) (m c d : Nat) (x : Int) (w : World) (hg : Gl w) (hx : Xs w A m) (hv : InV w B m x) (ho : NdOp op m) (hout : (out.toList == []) = false) (h1 : 1 ≤ x) (h2 : x ≤ 30) :
    Calls Tryz.prog 66 #[.agg #[.string op, .string nm, .slice A m c, .string out, .slice none 0 0], .slice B m d] w fun e w' => ∃ D k, e = .returned (.tuple #[.agg #[.string out, .int .i64 6, .slice D 1 k], .int .i64 0]) ∧ One w' D x ∧ Below w.heap.size w w' := by
  have hmf : ∀ (fn : Fn) (first cap : Array Value) (w : World), (Instr.makeFunc fn first cap).run Tryz.prog w = .ok (.func fn first cap) w := fun _ _ _ _ => rfl
  have HB := Lib.hid (Bx3.start w (ndO op nm out A m c) zVlO (.cells #[.int .i64 0] 39))
  have HG := Lib.hid hg
  have HX := Lib.hid hx
  have HV := Lib.hid hv
  have HO := Lib.hid ho
  have hR := rule_true
  have hK := good_ok
  clear hg hx hv ho
  go_enter_defers Tryz.func66, Tryz.ntmps66
  go_wp2_with fail
  refine (schemaCheck_any op nm out A m c _ (HG.out.below HB.out.below) (HX.out.below HB.out.below) HO.out hout).mono ?_
  rintro e w2 ⟨rfl, hb⟩
  have h2 := HB.out.all hb
  clear hb HB
  obtain ⟨r0, r1, r2, r3, r4, -⟩ := cells5 h2.g0
  have Hm := Lib.hid HO.out.cases
  go_wp2_with (first | (go_at_call 137; refine (hK _).mono ?_; rintro e w' ⟨rfl, rfl⟩) | (go_at_call 138; refine (hR _).mono ?_; rintro e w' ⟨rfl, rfl⟩))
  have H2 := Lib.hid h2
  clear h2 r0 r1 r2 r3 r4
  go_loopw [28] (fun i wr => ∃ k : Nat, k ≤ m ∧ i = .int .i64 k ∧ Bx3 w wr (ndO op nm out A m c) zVlO (.cells #[.int .i64 0] 39)) (fun i _ => m - (intOf i).toNat)
  case atStart => exact ⟨0, by omega, rfl, H2.out⟩
  case round =>
    obtain ⟨k, hk, rfl, hs⟩ := hrel
    have hm2 := Hm.out
    by_cases hlt : k < m
    · obtain ⟨b, off, hBe, hb, hc⟩ := HV.out.below hs.below
      subst hBe
      obtain ⟨nm0, Ad, cd, q0, q1, q2, q3⟩ := hc k hlt
      have hs1 := hs.new (.cells #[.string nm0, .int .i64 6, .slice Ad 1 cd] 28)
      have HC := count1_any (wr.alloc (.cells #[.string nm0, .int .i64 6, .slice Ad 1 cd] 28)) Ad cd x (q3.below (below_new _ _)) h1 h2
      have Hs1 := Lib.hid hs1
      clear hs hs1 hc q3
      go_wp2_with (first | (go_at_call 87; refine (check6_any _ _ sm0).mono ?_; rintro e w' ⟨rfl, rfl⟩) | (go_at_call 42; refine HC.mono ?_; rintro e w' ⟨rfl, rfl⟩) | (go_at_call 137; refine (hK _).mono ?_; rintro e w' ⟨rfl, rfl⟩))
      go_roundw
      case rel => exact ⟨k + 1, by omega, by go_num, Hs1.out⟩
      case measure => simp [intOf]; omega
    · obtain rfl : k = m := by omega
      clear hlt
      obtain ⟨r0, r1, r2, r3, r4, -⟩ := cells5 hs.g0
      have hs1 := hs.new (.cells #[.string op, .string nm, .slice A k c, .string out, .slice none 0 0, .slice B k d] 246)
      have gm := heap_alloc_new wr (.cells #[.string op, .string nm, .slice A k c, .string out, .slice none 0 0, .slice B k d] 246)
      have n1 : w.heap.size ≠ wr.heap.size := by have := hs.size; omega
      have zr := hs.size
      have HV1 := HV.out.below hs1.below
      clear hs
      go_wp2_with fail
      refine (typ_nd op nm out A B c k d k x _ HV1 HO.out).mono ?_
      rintro e w3 ⟨rfl, hb⟩
      have h3 := hs1.all hb
      have g3 := (hb.block wr.heap.size (by simp)).trans gm
      clear hb hs1 gm HV1 r0 r1 r2 r3 r4
      obtain ⟨r0, r1, r2, r3, r4, r5⟩ := cells6 g3
      go_wp2_with fail
      refine (dims_nd op nm out A B c k d k x _ (HV.out.below h3.below) HO.out h1 h2).mono ?_
      rintro e w4 ⟨D, q, rfl, hD, hb⟩
      have h4 := h3.all hb
      have g4 := (hb.block wr.heap.size (Array.getElem?_eq_some_iff.1 g3).1).trans g3
      clear hb h3 g3 r0 r1 r2 r3 r4 r5
      obtain ⟨r0, r1, r2, r3, r4, r5⟩ := cells6 g4
      have HC := count1_any w4 D q x hD h1 h2
      go_wp2_with (first | (go_at_call 42; refine HC.mono ?_; rintro e w' ⟨rfl, rfl⟩) | (go_at_call 137; refine (hK _).mono ?_; rintro e w' ⟨rfl, rfl⟩))
      refine (mthen_any op nm out A B c k d k 6 _).mono ?_
      rintro e w5 ⟨rfl, hb⟩
      have h5 := h4.all hb
      have hD5 := hD.below hb
      clear hb h4 g4 HC r0 r1 r2 r3 r4 r5 hD
      obtain ⟨r0, r1, r2, r3, r4, -⟩ := cells5 h5.g0
      go_wp2_with fail
      clear r0 r1 r2 r4
      go_region_held3 (fun W => W.cell? ⟨w.heap.size, 3, none⟩ = some (.string out)) (first | with_reducible exact r3 | with_reducible exact p3 | go_keep | exact (World.cell?_setCell_other _ _ _ _ (fun e => by have := congrArg Addr.block e; dsimp only at this; omega)).trans ((far3 (by simp)).trans p3))
        (first
          | (go_at_call 65; refine Calls.mono (clone1_any _ _ _ x (by exact hD5)) ?_; rintro e w6 ⟨A', c', rfl, hn, hb⟩; have h6 := h5.all (Below.trans (Below.refl _ _).drew (hb.mono (by simp))); have p3 := cell_of_row _ _ 3 _ 37 (0, 0) h6.g0; obtain ⟨g, hA, q1, q2, q3, -⟩ := hn; have q5 : w.heap.size + 3 ≤ g := Nat.le_trans h5.size q1; obtain ⟨a0, a1, a2, e0, e1, e2⟩ := cells3 h6.g1; have a3 := cell_of_row _ _ 0 _ 39 (0, 0) h6.g2; have e3 := frozen_row h6.g2 0; clear hb q1))
      refine put3 (F := fun W => Exit.then _ _ _ _ (W.setCell ⟨w.heap.size + 1 + 1, 0, none⟩ (.int .i64 0))) h6.g1 ?_
      intro w7 g7 k7 b7 z7
      have g8 := (Below.heap_setCell w7 ⟨w.heap.size + 1 + 1, 0, none⟩ (.int .i64 0) (w.heap.size + 1) (by simp)).trans g7
      have e8 : (w7.setCell ⟨w.heap.size + 1 + 1, 0, none⟩ (.int .i64 0)).heap[w.heap.size + 1 + 1]? = some (.cells #[.int .i64 0] 39 (0, 0)) := heap_setCell_same w7 (w.heap.size + 1 + 1) 0 _ 39 (.int .i64 0) ((k7 (w.heap.size + 1 + 1) (by omega)).trans h6.g2)
      have b8 : Below w.heap.size w (w7.setCell ⟨w.heap.size + 1 + 1, 0, none⟩ (.int .i64 0)) := (h6.below.trans (b7.mono (by omega))).setCell (by show _ ≤ w.heap.size + 1 + 1; omega) _
      have o8 : One (w7.setCell ⟨w.heap.size + 1 + 1, 0, none⟩ (.int .i64 0)) A' x := by
        refine ⟨g, 0, hA, by simp [World.setCell]; omega, ?_⟩
        exact (World.cell?_of_block (a := ⟨g, 0, none⟩) ((Below.heap_setCell _ _ _ _ (by dsimp only; omega)).trans (k7 g (by omega)))).trans q3
      generalize w7.setCell ⟨w.heap.size + 1 + 1, 0, none⟩ (.int .i64 0) = W at g8 e8 b8 o8 ⊢
      clear g7 k7 b7 z7 a0 a1 a2 a3 e0 e1 e2 e3 p3 r3
      go_wp2
      refine leaves_cons (f := 136) (args := #[.pointer (some ⟨w.heap.size + 1, 0, none⟩), .pointer (some ⟨w.heap.size + 1 + 1, 0, none⟩)]) (by simp) (by simp [go_sem]) ?_
      refine (ocatch_idle _ _ _).mono ?_
      rintro e u' w'' ⟨rfl, rfl, rfl⟩
      obtain ⟨p0, p1, p2, -⟩ := cells3 g8
      have q0 : w''.cell? ⟨w.heap.size + 1 + 1, 0, none⟩ = some (.int .i64 0) := cell_of_row _ _ 0 _ 39 (0, 0) e8
      simp [Leaves, settle, results, Tryz.results66, go_sem, p0, p1, p2, q0]
      subst hA
      exact ⟨o8, b8⟩
end Go.Proofs.YtbilddeepnnogaaGreatDoor
end
/- Graphs whose nodes read x alone: how such a one lies in memory; its parts may be. -/
section
set_option linter.unusedVariables false
set_option maxRecDepth 100000
namespace Go.Proofs.YtbilddeepnnogaaGreatDoor
open Go.RowKit Go.Shelf

/-- A node: its operator, its value's name, how often it reads x. -/
structure Op1 where
  op : ByteArray
  out : ByteArray
  m : Nat
/-- A list of such nodes. -/
structure FlatL (l : List Op1) : Prop where
  pos : 0 < l.length
  most : l.length ≤ 5
  ops : ∀ o ∈ l, NdOp o.op o.m
  outs : ∀ o ∈ l, (o.out.toList == []) = false ∧ o.out.toList ≠ [120]
  short : ∀ o ∈ l, o.out.size ≤ 1000
  apart : ∀ (i j : Nat) (a b : Op1), l[i]? = some a → l[j]? = some b → a.out = b.out → i = j
/-- The nodes in memory. -/
def NdAt (w : World) (A : Option Addr) (l : List Op1) : Prop := ∃ b off, A = some ⟨b, off, none⟩ ∧ b < w.heap.size ∧ ∀ j o, l[j]? = some o → ∃ nm A' c, w.cell? ⟨b, off + j * 5, none⟩ = some (.string o.op) ∧ w.cell? ⟨b, off + j * 5 + 1, none⟩ = some (.string nm) ∧ w.cell? ⟨b, off + j * 5 + 2, none⟩ = some (.slice A' o.m c) ∧ w.cell? ⟨b, off + j * 5 + 3, none⟩ = some (.string o.out) ∧ w.cell? ⟨b, off + j * 5 + 4, none⟩ = some (.slice none 0 0) ∧ Xs w A' o.m
/-- Values in memory: of these names, Int32, of x elements each. -/
def VlAt (w : World) (A : Option Addr) (ns : List ByteArray) (x : Int) : Prop := ∃ b off, A = some ⟨b, off, none⟩ ∧ b < w.heap.size ∧ ∀ j s, ns[j]? = some s → ∃ Ad c, w.cell? ⟨b, off + j * 3, none⟩ = some (.string s) ∧ w.cell? ⟨b, off + j * 3 + 1, none⟩ = some (.int .i64 6) ∧ w.cell? ⟨b, off + j * 3 + 2, none⟩ = some (.slice Ad 1 c) ∧ One w Ad x
theorem NdAt.below {w w' : World} {A : Option Addr} {l : List Op1} (h : NdAt w A l) (hb : Below w.heap.size w w') : NdAt w' A l := by
  obtain ⟨b, off, rfl, h1, h2⟩ := h
  refine ⟨b, off, rfl, Nat.lt_of_lt_of_le h1 hb.size, fun j o hj => ?_⟩
  obtain ⟨nm, A', c, q0, q1, q2, q3, q4, q5⟩ := h2 j o hj
  exact ⟨nm, A', c, (hb.cell (p := ⟨b, _, none⟩) h1).trans q0, (hb.cell (p := ⟨b, _, none⟩) h1).trans q1, (hb.cell (p := ⟨b, _, none⟩) h1).trans q2, (hb.cell (p := ⟨b, _, none⟩) h1).trans q3, (hb.cell (p := ⟨b, _, none⟩) h1).trans q4, q5.below hb⟩
theorem VlAt.below {w w' : World} {A : Option Addr} {ns : List ByteArray} {x : Int} (h : VlAt w A ns x) (hb : Below w.heap.size w w') : VlAt w' A ns x := by
  obtain ⟨b, off, rfl, h1, h2⟩ := h
  refine ⟨b, off, rfl, Nat.lt_of_lt_of_le h1 hb.size, fun j o hj => ?_⟩
  obtain ⟨A', c, q0, q1, q2, q3⟩ := h2 j o hj
  exact ⟨A', c, (hb.cell (p := ⟨b, _, none⟩) h1).trans q0, (hb.cell (p := ⟨b, _, none⟩) h1).trans q1, (hb.cell (p := ⟨b, _, none⟩) h1).trans q2, q3.below hb⟩
/-- The graph in memory. -/
structure FlatG (w : World) (An Ai Ao : Option Addr) (l : List Op1) (x : Int) : Prop where
  ok : FlatL l
  gl : Gl w
  lo : 1 ≤ x
  hi : x ≤ 30
  nodes : NdAt w An l
  ins : VlAt w Ai [⟨#[120]⟩] x
  outs : VlAt w Ao (l.map (·.out)) x
theorem FlatG.below {w w' : World} {An Ai Ao : Option Addr} {l : List Op1} {x : Int} (h : FlatG w An Ai Ao l x) (hb : Below w.heap.size w w') : FlatG w' An Ai Ao l x :=
  ⟨h.ok, h.gl.below hb, h.lo, h.hi, h.nodes.below hb, h.ins.below hb, h.outs.below hb⟩
/-- The graph as a value. -/
@[reducible] def grV (gn : ByteArray) (An Ai Ao : Option Addr) (n cn ci co : Nat) : Value := .agg #[.string gn, .slice An n cn, .slice Ai 1 ci, .slice Ao n co, .slice none 0 0]

set_option maxHeartbeats 1600000 in
theorem parts_any (gn : ByteArray) (An Ai Ao : Option Addr) (cn ci co : Nat) (l : List Op1) (x : Int) (w : World) (h : FlatG w An Ai Ao l x) :
    Calls Tryz.prog 61 #[.agg #[.string gn, .slice An l.length cn, .slice Ai 1 ci, .slice Ao l.length co, .slice none 0 0]] w fun e w' => e = .returned (.int .i64 0) ∧ Below w.heap.size w w' := by
  have H := Lib.hid h
  have H5 := h.ok.most
  clear h
  go_enter Tryz.func61, Tryz.ntmps61
  go_wp2_with fail
  refine new_F (F := fun W => Code.wp _ _ _ _ W) ?_
  intro w1 b1 g1 _
  have hx := Bx.mk b1 g1
  have HX := Lib.hid hx
  obtain ⟨b, off, rfl, hb, hc⟩ := (H.out.below b1).ins
  obtain ⟨Ad, cd, q0, q1, q2, q3⟩ := hc 0 _ rfl
  simp only [Nat.zero_mul, Nat.add_zero] at q0 q1 q2
  have HC := count1_any (w1.alloc (.cells #[.string ⟨#[120]⟩, .int .i64 6, .slice Ad 1 cd] 28)) Ad cd x (q3.below (below_new _ _)) H.out.lo H.out.hi
  have hx2 := hx.new (.cells #[.string ⟨#[120]⟩, .int .i64 6, .slice Ad 1 cd] 28)
  have n1 : b < w1.heap.size + 1 := by omega
  obtain ⟨r0, r1, r2, r3, r4, -⟩ := cells5 hx2.g0
  clear hc q3 hx g1 b1
  refine wp_loop_rounds 2 ?_
  rw [rounds_succ]
  go_wp2_with (first | (go_at_call 87; refine (check6_any _ _ sm0).mono ?_; rintro e w' ⟨rfl, rfl⟩) | (go_at_call 42; refine HC.mono ?_; rintro e w' ⟨rfl, rfl⟩))
  rw [rounds_succ]
  go_wp2_with fail
  refine wp_loop_rounds 1 ?_
  rw [rounds_succ]
  go_wp2_with fail
  have HX2 := Lib.hid hx2
  have hnl : (l.length : Int) ≤ 5 := by omega
  clear r0 r1 r2 r3 r4 hx2 HC HX q0 q1 q2 hb n1
  go_loopw [51] (fun i wr => ∃ k : Nat, k ≤ l.length ∧ i = .int .i64 k ∧ Bx w wr (.cells #[.string gn, .slice An l.length cn, .slice (some ⟨b, off, none⟩) 1 ci, .slice Ao l.length co, .slice none 0 0] 33)) (fun i _ => l.length - (intOf i).toNat)
  case atStart => exact ⟨0, by omega, rfl, HX2.out⟩
  case round =>
    obtain ⟨k, hk, rfl, hs⟩ := hrel
    by_cases hlt : k < l.length
    · have hF := H.out.below hs.below
      obtain ⟨bn, offn, rfl, hb, hc⟩ := hF.nodes
      obtain ⟨o, ho⟩ : ∃ o, l[k]? = some o := ⟨_, List.getElem?_eq_getElem hlt⟩
      have hmem := List.mem_of_getElem? ho
      obtain ⟨nm, A', c, q0, q1, q2, q3, q4, q5⟩ := hc k o ho
      have hs1 := hs.new (.cells #[.string o.op, .string nm, .slice A' o.m c, .string o.out, .slice none 0 0] 37)
      have HCk := schemaCheck_any o.op nm o.out A' o.m c (wr.alloc (.cells #[.string o.op, .string nm, .slice A' o.m c, .string o.out, .slice none 0 0] 37)) (hF.gl.below (below_new _ _)) (q5.below (below_new _ _)) (hF.ok.ops o hmem) (hF.ok.outs o hmem).1
      have HS := Lib.hid hs1
      clear hs hs1 hc q5 hF ho hmem
      go_wp2_with fail
      refine HCk.mono ?_
      rintro e w3 ⟨rfl, hb3⟩
      have h3 := HS.out.all hb3
      clear hb3
      go_wp2_with fail
      go_roundw
      case rel => exact ⟨k + 1, by omega, by go_num, h3⟩
      case measure => simp [intOf]; omega
    · obtain rfl : k = l.length := by omega
      go_wp2
      go_ret
      exact ⟨rfl, hs.below⟩
end Go.Proofs.YtbilddeepnnogaaGreatDoor
end
