/- Arguments opened, every number in its type's range. -/
import Derived.Test.YtkcnpnnflbibiaaZr
import Derived.Test.YtkcnpnnflbibiaaJc
set_option linter.unusedVariables false
namespace Go.Proofs.Ytkcnpnnflbibiaa
open Go.ChangeShapes Go.WideShapes Go.ChangeAt Go.RowKit

section
variable {H : Type} {enc : TypeId × Value → H} {W : World} {L : Nat} {Q : TypeId → DataW H → Prop}
theorem wf_int {k : Int} (h : (Lit.int .i64 k).wf = true) : InR k := by
  unfold InR
  simp [Lit.wf] at h
  have h1 : IntKind.i64.min = -9223372036854775808 := by decide
  have h2 : IntKind.i64.max = 9223372036854775807 := by decide
  omega
theorem opens_int3r : Opens enc W Q repInt 3 InR := by
  intro fuel cs x h _
  obtain ⟨k, rfl, _, w0⟩ := DataW.trod_int Try.underlying3 h
  exact ⟨k, rfl, wf_int w0⟩
theorem opens_int2r : Opens enc W Q repInt 2 InR := by
  intro fuel cs x h _
  obtain ⟨k, rfl, _, w0⟩ := DataW.trod_int Try.underlying2 h
  exact ⟨k, rfl, wf_int w0⟩
theorem open2_tn (M : Meas L Q) : Opens enc W Q repTn 47 (fun t => TnB L t ∧ TnIn t) := by
  intro fuel cs x h hq
  obtain ⟨xs, n, rfl, rfl, hcl, hxl, hf⟩ := DataW.trod_struct Try.underlying47 h
  rw [Try.cells47] at hcl
  obtain ⟨c0, c1, c2, rfl⟩ := len3 hcl
  obtain ⟨y0, y1, y2, rfl⟩ := len3 (l := xs) hxl
  have f0 : DataW.trod enc Try.prog W 0 (fun _ => true) true n 3 (([c0, c1, c2].drop 0).take (Try.prog.cellsOf 3)) = some y0 := hf 0 _ rfl
  rw [Try.cells3] at f0
  have t0 : DataW.trod enc Try.prog W 0 (fun _ => true) true n 3 [c0] = some y0 := f0
  clear f0
  have q0 : Q 3 y0.1 := M.agg 47 _ _ Try.underlying47 hq 0 _ y0.1 rfl rfl
  have f1 : DataW.trod enc Try.prog W 0 (fun _ => true) true n 44 (([c0, c1, c2].drop 1).take (Try.prog.cellsOf 44)) = some y1 := hf 1 _ rfl
  rw [Try.cells44] at f1
  have t1 : DataW.trod enc Try.prog W 0 (fun _ => true) true n 44 [c1] = some y1 := f1
  clear f1
  have q1 : Q 44 y1.1 := M.agg 47 _ _ Try.underlying47 hq 1 _ y1.1 rfl rfl
  have f2 : DataW.trod enc Try.prog W 0 (fun _ => true) true n 45 (([c0, c1, c2].drop 2).take (Try.prog.cellsOf 45)) = some y2 := hf 2 _ rfl
  rw [Try.cells45] at f2
  have t2 : DataW.trod enc Try.prog W 0 (fun _ => true) true n 45 [c2] = some y2 := f2
  clear f2
  have q2 : Q 45 y2.1 := M.agg 47 _ _ Try.underlying47 hq 2 _ y2.1 rfl rfl
  obtain ⟨k0, e0, _, w0⟩ := DataW.trod_int Try.underlying3 t0
  simp only [List.cons.injEq, and_true] at e0
  subst e0
  obtain ⟨k1, A1, n1, b1, e1, s1, z1, v1⟩ := open_sl M Try.underlying44 Try.cells3 (by decide) Try.bytes3 opens_int3r t1 q1
  simp only [List.cons.injEq, and_true] at e1
  subst e1
  obtain ⟨k2, A2, n2, b2, e2, s2, z2, v2⟩ := open_sl M Try.underlying45 Try.cells2 (by decide) Try.bytes2 opens_int2r t2 q2
  simp only [List.cons.injEq, and_true] at e2
  subst e2
  exact ⟨⟨k0, k1, k2⟩, ⟨_, _, rfl, ⟨_, _, _, rfl, s1⟩, ⟨_, _, _, rfl, s2⟩⟩, ⟨z1, z2⟩, ⟨wf_int w0, v1, v2⟩⟩
theorem open2_vl (M : Meas L Q) : Opens enc W Q repVl 81 (fun v => VlB L v ∧ VlIn v) := by
  intro fuel cs x h hq
  obtain ⟨xs, n, rfl, rfl, hcl, hxl, hf⟩ := DataW.trod_struct Try.underlying81 h
  rw [Try.cells81] at hcl
  obtain ⟨c0, c1, c2, rfl⟩ := len3 hcl
  obtain ⟨y0, y1, y2, rfl⟩ := len3 (l := xs) hxl
  have f0 : DataW.trod enc Try.prog W 0 (fun _ => true) true n 9 (([c0, c1, c2].drop 0).take (Try.prog.cellsOf 9)) = some y0 := hf 0 _ rfl
  rw [Try.cells9] at f0
  have t0 : DataW.trod enc Try.prog W 0 (fun _ => true) true n 9 [c0] = some y0 := f0
  clear f0
  have q0 : Q 9 y0.1 := M.agg 81 _ _ Try.underlying81 hq 0 _ y0.1 rfl rfl
  have f1 : DataW.trod enc Try.prog W 0 (fun _ => true) true n 3 (([c0, c1, c2].drop 1).take (Try.prog.cellsOf 3)) = some y1 := hf 1 _ rfl
  rw [Try.cells3] at f1
  have t1 : DataW.trod enc Try.prog W 0 (fun _ => true) true n 3 [c1] = some y1 := f1
  clear f1
  have q1 : Q 3 y1.1 := M.agg 81 _ _ Try.underlying81 hq 1 _ y1.1 rfl rfl
  have f2 : DataW.trod enc Try.prog W 0 (fun _ => true) true n 44 (([c0, c1, c2].drop 2).take (Try.prog.cellsOf 44)) = some y2 := hf 2 _ rfl
  rw [Try.cells44] at f2
  have t2 : DataW.trod enc Try.prog W 0 (fun _ => true) true n 44 [c2] = some y2 := f2
  clear f2
  have q2 : Q 44 y2.1 := M.agg 81 _ _ Try.underlying81 hq 2 _ y2.1 rfl rfl
  obtain ⟨k0, e0, z0⟩ := opens_str M _ _ _ t0 q0
  have e0 : [c0] = [.string k0] := e0
  simp only [List.cons.injEq, and_true] at e0
  subst e0
  obtain ⟨k1, e1, _, w1⟩ := DataW.trod_int Try.underlying3 t1
  simp only [List.cons.injEq, and_true] at e1
  subst e1
  obtain ⟨k2, A2, n2, b2, e2, s2, z2, v2⟩ := open_sl M Try.underlying44 Try.cells3 (by decide) Try.bytes3 opens_int3r t2 q2
  simp only [List.cons.injEq, and_true] at e2
  subst e2
  exact ⟨⟨k0, k1, k2⟩, ⟨_, rfl, ⟨_, _, _, rfl, s2⟩⟩, ⟨z0, z2⟩, ⟨wf_int w1, v2⟩⟩
theorem open2_nm (M : Meas L Q) : Opens enc W Q repNm 69 (fun t => NmB L t ∧ TnIn t.t) := by
  intro fuel cs x h hq
  obtain ⟨xs, n, rfl, rfl, hcl, hxl, hf⟩ := DataW.trod_struct Try.underlying69 h
  rw [Try.cells69] at hcl
  obtain ⟨c0, c1, c2, c3, rfl⟩ := len4 hcl
  obtain ⟨y0, y1, rfl⟩ := len2 (l := xs) hxl
  have f0 : DataW.trod enc Try.prog W 0 (fun _ => true) true n 9 (([c0, c1, c2, c3].drop 0).take (Try.prog.cellsOf 9)) = some y0 := hf 0 _ rfl
  rw [Try.cells9] at f0
  have t0 : DataW.trod enc Try.prog W 0 (fun _ => true) true n 9 [c0] = some y0 := f0
  clear f0
  have q0 : Q 9 y0.1 := M.agg 69 _ _ Try.underlying69 hq 0 _ y0.1 rfl rfl
  have f1 : DataW.trod enc Try.prog W 0 (fun _ => true) true n 47 (([c0, c1, c2, c3].drop 1).take (Try.prog.cellsOf 47)) = some y1 := hf 1 _ rfl
  rw [Try.cells47] at f1
  have t1 : DataW.trod enc Try.prog W 0 (fun _ => true) true n 47 [c1, c2, c3] = some y1 := f1
  clear f1
  have q1 : Q 47 y1.1 := M.agg 69 _ _ Try.underlying69 hq 1 _ y1.1 rfl rfl
  obtain ⟨k0, e0, z0⟩ := opens_str M _ _ _ t0 q0
  have e0 : [c0] = [.string k0] := e0
  simp only [List.cons.injEq, and_true] at e0
  subst e0
  obtain ⟨k1, ⟨d1, g1, e1, s1, r1⟩, z1⟩ := open2_tn M _ _ _ t1 q1
  simp only [List.cons.injEq, and_true] at e1
  obtain ⟨rfl, rfl, rfl⟩ := e1
  exact ⟨⟨k0, k1⟩, ⟨_, _, rfl, s1, r1⟩, ⟨z0, z1.1⟩, z1.2⟩
theorem open2_at (M : Meas L Q) : Opens enc W Q repAt 88 (fun a => AtB L a ∧ AtIn a) := by
  intro fuel cs x h hq
  obtain ⟨xs, n, rfl, rfl, hcl, hxl, hf⟩ := DataW.trod_struct Try.underlying88 h
  rw [Try.cells88] at hcl
  obtain ⟨c0, c1, c2, c3, c4, c5, c6, c7, c8, rfl⟩ := len9 hcl
  obtain ⟨y0, y1, y2, y3, y4, y5, y6, rfl⟩ := len7 (l := xs) hxl
  have f0 : DataW.trod enc Try.prog W 0 (fun _ => true) true n 9 (([c0, c1, c2, c3, c4, c5, c6, c7, c8].drop 0).take (Try.prog.cellsOf 9)) = some y0 := hf 0 _ rfl
  rw [Try.cells9] at f0
  have t0 : DataW.trod enc Try.prog W 0 (fun _ => true) true n 9 [c0] = some y0 := f0
  clear f0
  have q0 : Q 9 y0.1 := M.agg 88 _ _ Try.underlying88 hq 0 _ y0.1 rfl rfl
  have f1 : DataW.trod enc Try.prog W 0 (fun _ => true) true n 3 (([c0, c1, c2, c3, c4, c5, c6, c7, c8].drop 1).take (Try.prog.cellsOf 3)) = some y1 := hf 1 _ rfl
  rw [Try.cells3] at f1
  have t1 : DataW.trod enc Try.prog W 0 (fun _ => true) true n 3 [c1] = some y1 := f1
  clear f1
  have q1 : Q 3 y1.1 := M.agg 88 _ _ Try.underlying88 hq 1 _ y1.1 rfl rfl
  have f2 : DataW.trod enc Try.prog W 0 (fun _ => true) true n 2 (([c0, c1, c2, c3, c4, c5, c6, c7, c8].drop 2).take (Try.prog.cellsOf 2)) = some y2 := hf 2 _ rfl
  rw [Try.cells2] at f2
  have t2 : DataW.trod enc Try.prog W 0 (fun _ => true) true n 2 [c2] = some y2 := f2
  clear f2
  have q2 : Q 2 y2.1 := M.agg 88 _ _ Try.underlying88 hq 2 _ y2.1 rfl rfl
  have f3 : DataW.trod enc Try.prog W 0 (fun _ => true) true n 2 (([c0, c1, c2, c3, c4, c5, c6, c7, c8].drop 3).take (Try.prog.cellsOf 2)) = some y3 := hf 3 _ rfl
  rw [Try.cells2] at f3
  have t3 : DataW.trod enc Try.prog W 0 (fun _ => true) true n 2 [c3] = some y3 := f3
  clear f3
  have q3 : Q 2 y3.1 := M.agg 88 _ _ Try.underlying88 hq 3 _ y3.1 rfl rfl
  have f4 : DataW.trod enc Try.prog W 0 (fun _ => true) true n 9 (([c0, c1, c2, c3, c4, c5, c6, c7, c8].drop 4).take (Try.prog.cellsOf 9)) = some y4 := hf 4 _ rfl
  rw [Try.cells9] at f4
  have t4 : DataW.trod enc Try.prog W 0 (fun _ => true) true n 9 [c4] = some y4 := f4
  clear f4
  have q4 : Q 9 y4.1 := M.agg 88 _ _ Try.underlying88 hq 4 _ y4.1 rfl rfl
  have f5 : DataW.trod enc Try.prog W 0 (fun _ => true) true n 47 (([c0, c1, c2, c3, c4, c5, c6, c7, c8].drop 5).take (Try.prog.cellsOf 47)) = some y5 := hf 5 _ rfl
  rw [Try.cells47] at f5
  have t5 : DataW.trod enc Try.prog W 0 (fun _ => true) true n 47 [c5, c6, c7] = some y5 := f5
  clear f5
  have q5 : Q 47 y5.1 := M.agg 88 _ _ Try.underlying88 hq 5 _ y5.1 rfl rfl
  have f6 : DataW.trod enc Try.prog W 0 (fun _ => true) true n 45 (([c0, c1, c2, c3, c4, c5, c6, c7, c8].drop 8).take (Try.prog.cellsOf 45)) = some y6 := hf 6 _ rfl
  rw [Try.cells45] at f6
  have t6 : DataW.trod enc Try.prog W 0 (fun _ => true) true n 45 [c8] = some y6 := f6
  clear f6
  have q6 : Q 45 y6.1 := M.agg 88 _ _ Try.underlying88 hq 6 _ y6.1 rfl rfl
  obtain ⟨k0, e0, z0⟩ := opens_str M _ _ _ t0 q0
  have e0 : [c0] = [.string k0] := e0
  simp only [List.cons.injEq, and_true] at e0
  subst e0
  obtain ⟨k1, e1, _, w1⟩ := DataW.trod_int Try.underlying3 t1
  simp only [List.cons.injEq, and_true] at e1
  subst e1
  obtain ⟨k2, e2, _, w2⟩ := DataW.trod_int Try.underlying2 t2
  simp only [List.cons.injEq, and_true] at e2
  subst e2
  obtain ⟨k3, e3, _, w3⟩ := DataW.trod_int Try.underlying2 t3
  simp only [List.cons.injEq, and_true] at e3
  subst e3
  obtain ⟨k4, e4, z4⟩ := opens_str M _ _ _ t4 q4
  have e4 : [c4] = [.string k4] := e4
  simp only [List.cons.injEq, and_true] at e4
  subst e4
  obtain ⟨k5, ⟨d5, g5, e5, s5, r5⟩, z5⟩ := open2_tn M _ _ _ t5 q5
  simp only [List.cons.injEq, and_true] at e5
  obtain ⟨rfl, rfl, rfl⟩ := e5
  obtain ⟨k6, A6, n6, b6, e6, s6, z6, v6⟩ := open_sl M Try.underlying45 Try.cells2 (by decide) Try.bytes2 opens_int2r t6 q6
  simp only [List.cons.injEq, and_true] at e6
  subst e6
  exact ⟨⟨k0, k1, k2, k3, k4, k5, k6⟩, ⟨_, _, _, rfl, s5, r5, ⟨_, _, _, rfl, s6⟩⟩, ⟨z0, z4, z5.1, z6⟩, ⟨wf_int w3, z5.2, v6⟩⟩
theorem open2_nd (M : Meas L Q) : Opens enc W Q repNd 67 (fun n => NdB L n ∧ ∀ a ∈ n.attrs, AtIn a) := by
  intro fuel cs x h hq
  obtain ⟨xs, n, rfl, rfl, hcl, hxl, hf⟩ := DataW.trod_struct Try.underlying67 h
  rw [Try.cells67] at hcl
  obtain ⟨c0, c1, c2, c3, c4, rfl⟩ := len5 hcl
  obtain ⟨y0, y1, y2, y3, y4, rfl⟩ := len5 (l := xs) hxl
  have f0 : DataW.trod enc Try.prog W 0 (fun _ => true) true n 9 (([c0, c1, c2, c3, c4].drop 0).take (Try.prog.cellsOf 9)) = some y0 := hf 0 _ rfl
  rw [Try.cells9] at f0
  have t0 : DataW.trod enc Try.prog W 0 (fun _ => true) true n 9 [c0] = some y0 := f0
  clear f0
  have q0 : Q 9 y0.1 := M.agg 67 _ _ Try.underlying67 hq 0 _ y0.1 rfl rfl
  have f1 : DataW.trod enc Try.prog W 0 (fun _ => true) true n 9 (([c0, c1, c2, c3, c4].drop 1).take (Try.prog.cellsOf 9)) = some y1 := hf 1 _ rfl
  rw [Try.cells9] at f1
  have t1 : DataW.trod enc Try.prog W 0 (fun _ => true) true n 9 [c1] = some y1 := f1
  clear f1
  have q1 : Q 9 y1.1 := M.agg 67 _ _ Try.underlying67 hq 1 _ y1.1 rfl rfl
  have f2 : DataW.trod enc Try.prog W 0 (fun _ => true) true n 64 (([c0, c1, c2, c3, c4].drop 2).take (Try.prog.cellsOf 64)) = some y2 := hf 2 _ rfl
  rw [Try.cells64] at f2
  have t2 : DataW.trod enc Try.prog W 0 (fun _ => true) true n 64 [c2] = some y2 := f2
  clear f2
  have q2 : Q 64 y2.1 := M.agg 67 _ _ Try.underlying67 hq 2 _ y2.1 rfl rfl
  have f3 : DataW.trod enc Try.prog W 0 (fun _ => true) true n 9 (([c0, c1, c2, c3, c4].drop 3).take (Try.prog.cellsOf 9)) = some y3 := hf 3 _ rfl
  rw [Try.cells9] at f3
  have t3 : DataW.trod enc Try.prog W 0 (fun _ => true) true n 9 [c3] = some y3 := f3
  clear f3
  have q3 : Q 9 y3.1 := M.agg 67 _ _ Try.underlying67 hq 3 _ y3.1 rfl rfl
  have f4 : DataW.trod enc Try.prog W 0 (fun _ => true) true n 65 (([c0, c1, c2, c3, c4].drop 4).take (Try.prog.cellsOf 65)) = some y4 := hf 4 _ rfl
  rw [Try.cells65] at f4
  have t4 : DataW.trod enc Try.prog W 0 (fun _ => true) true n 65 [c4] = some y4 := f4
  clear f4
  have q4 : Q 65 y4.1 := M.agg 67 _ _ Try.underlying67 hq 4 _ y4.1 rfl rfl
  obtain ⟨k0, e0, z0⟩ := opens_str M _ _ _ t0 q0
  have e0 : [c0] = [.string k0] := e0
  simp only [List.cons.injEq, and_true] at e0
  subst e0
  obtain ⟨k1, e1, z1⟩ := opens_str M _ _ _ t1 q1
  have e1 : [c1] = [.string k1] := e1
  simp only [List.cons.injEq, and_true] at e1
  subst e1
  obtain ⟨k2, A2, n2, b2, e2, s2, z2, v2⟩ := open_sl M Try.underlying64 Try.cells9 (by decide) Try.bytes9 (opens_str M) t2 q2
  simp only [List.cons.injEq, and_true] at e2
  subst e2
  obtain ⟨k3, e3, z3⟩ := opens_str M _ _ _ t3 q3
  have e3 : [c3] = [.string k3] := e3
  simp only [List.cons.injEq, and_true] at e3
  subst e3
  obtain ⟨k4, A4, n4, b4, e4, s4, z4, v4⟩ := open_sl M Try.underlying65 Try.cells88 (by decide) Try.bytes88 (open2_at M) t4 q4
  simp only [List.cons.injEq, and_true] at e4
  subst e4
  exact ⟨⟨k0, k1, k2, k3, k4⟩, ⟨_, _, rfl, ⟨_, _, _, rfl, s2⟩, ⟨_, _, _, rfl, s4⟩⟩, ⟨z0, z1, z3, z2, v2, z4, fun a ha => (v4 a ha).1⟩, fun a ha => (v4 a ha).2⟩
theorem open2_gr (M : Meas L Q) : Opens enc W Q repGr 34 (fun g => GrB L g ∧ GrIn g) := by
  intro fuel cs x h hq
  obtain ⟨xs, n, rfl, rfl, hcl, hxl, hf⟩ := DataW.trod_struct Try.underlying34 h
  rw [Try.cells34] at hcl
  obtain ⟨c0, c1, c2, c3, c4, rfl⟩ := len5 hcl
  obtain ⟨y0, y1, y2, y3, y4, rfl⟩ := len5 (l := xs) hxl
  have f0 : DataW.trod enc Try.prog W 0 (fun _ => true) true n 9 (([c0, c1, c2, c3, c4].drop 0).take (Try.prog.cellsOf 9)) = some y0 := hf 0 _ rfl
  rw [Try.cells9] at f0
  have t0 : DataW.trod enc Try.prog W 0 (fun _ => true) true n 9 [c0] = some y0 := f0
  clear f0
  have q0 : Q 9 y0.1 := M.agg 34 _ _ Try.underlying34 hq 0 _ y0.1 rfl rfl
  have f1 : DataW.trod enc Try.prog W 0 (fun _ => true) true n 30 (([c0, c1, c2, c3, c4].drop 1).take (Try.prog.cellsOf 30)) = some y1 := hf 1 _ rfl
  rw [Try.cells30] at f1
  have t1 : DataW.trod enc Try.prog W 0 (fun _ => true) true n 30 [c1] = some y1 := f1
  clear f1
  have q1 : Q 30 y1.1 := M.agg 34 _ _ Try.underlying34 hq 1 _ y1.1 rfl rfl
  have f2 : DataW.trod enc Try.prog W 0 (fun _ => true) true n 31 (([c0, c1, c2, c3, c4].drop 2).take (Try.prog.cellsOf 31)) = some y2 := hf 2 _ rfl
  rw [Try.cells31] at f2
  have t2 : DataW.trod enc Try.prog W 0 (fun _ => true) true n 31 [c2] = some y2 := f2
  clear f2
  have q2 : Q 31 y2.1 := M.agg 34 _ _ Try.underlying34 hq 2 _ y2.1 rfl rfl
  have f3 : DataW.trod enc Try.prog W 0 (fun _ => true) true n 31 (([c0, c1, c2, c3, c4].drop 3).take (Try.prog.cellsOf 31)) = some y3 := hf 3 _ rfl
  rw [Try.cells31] at f3
  have t3 : DataW.trod enc Try.prog W 0 (fun _ => true) true n 31 [c3] = some y3 := f3
  clear f3
  have q3 : Q 31 y3.1 := M.agg 34 _ _ Try.underlying34 hq 3 _ y3.1 rfl rfl
  have f4 : DataW.trod enc Try.prog W 0 (fun _ => true) true n 32 (([c0, c1, c2, c3, c4].drop 4).take (Try.prog.cellsOf 32)) = some y4 := hf 4 _ rfl
  rw [Try.cells32] at f4
  have t4 : DataW.trod enc Try.prog W 0 (fun _ => true) true n 32 [c4] = some y4 := f4
  clear f4
  have q4 : Q 32 y4.1 := M.agg 34 _ _ Try.underlying34 hq 4 _ y4.1 rfl rfl
  obtain ⟨k0, e0, z0⟩ := opens_str M _ _ _ t0 q0
  have e0 : [c0] = [.string k0] := e0
  simp only [List.cons.injEq, and_true] at e0
  subst e0
  obtain ⟨k1, A1, n1, b1, e1, s1, z1, v1⟩ := open_sl M Try.underlying30 Try.cells67 (by decide) Try.bytes67 (open2_nd M) t1 q1
  simp only [List.cons.injEq, and_true] at e1
  subst e1
  obtain ⟨k2, A2, n2, b2, e2, s2, z2, v2⟩ := open_sl M Try.underlying31 Try.cells81 (by decide) Try.bytes81 (open2_vl M) t2 q2
  simp only [List.cons.injEq, and_true] at e2
  subst e2
  obtain ⟨k3, A3, n3, b3, e3, s3, z3, v3⟩ := open_sl M Try.underlying31 Try.cells81 (by decide) Try.bytes81 (open2_vl M) t3 q3
  simp only [List.cons.injEq, and_true] at e3
  subst e3
  obtain ⟨k4, A4, n4, b4, e4, s4, z4, v4⟩ := open_sl M Try.underlying32 Try.cells69 (by decide) Try.bytes69 (open2_nm M) t4 q4
  simp only [List.cons.injEq, and_true] at e4
  subst e4
  exact ⟨⟨k0, k1, k2, k3, k4⟩, ⟨_, _, _, _, rfl, ⟨_, _, _, rfl, s1⟩, ⟨_, _, _, rfl, s2⟩, ⟨_, _, _, rfl, s3⟩, ⟨_, _, _, rfl, s4⟩⟩, ⟨z0, z1, z2, z3, z4, fun x hx => (v1 x hx).1, fun x hx => (v2 x hx).1, fun x hx => (v3 x hx).1, fun x hx => (v4 x hx).1⟩, ⟨fun x hx => (v1 x hx).2, fun x hx => (v2 x hx).2, fun x hx => (v3 x hx).2, fun x hx => (v4 x hx).2⟩⟩
end
end Go.Proofs.Ytkcnpnnflbibiaa
