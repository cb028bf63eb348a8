/-
  'mandrellaw05.PbPasses': for every input the call returns true, and each argument reads behind it as it read before. No condition.
-/
import Derived.Test.YtkcnpnnflbibiaaZr
import Derived.Test.YtkcnpnnflbibiaaGa
set_option linter.unusedVariables false
namespace Go.Proofs.Ytkcnpnnflbibiaa
open Go.RowKit
section
variable {H : Type} {enc : TypeId × Value → H} {W : World} {L : Nat} {Q : TypeId → DataW H → Prop}
theorem wf_i64 {k : Int} (h : (Lit.int .i64 k).wf = true) : -9223372036854775808 ≤ k ∧ k ≤ 9223372036854775807 := by
  simp [Lit.wf] at h
  have h1 : IntKind.i64.min = -9223372036854775808 := by decide
  have h2 : IntKind.i64.max = 9223372036854775807 := by decide
  omega
theorem wf_u64 {k : Int} (h : (Lit.int .u64 k).wf = true) : 0 ≤ k ∧ k < B64 := by
  unfold B64
  simp [Lit.wf] at h
  have h1 : IntKind.u64.min = 0 := by decide
  have h2 : IntKind.u64.max = 18446744073709551615 := by decide
  omega
theorem Try.cells24' : Try.prog.cellsOf 24 = 4 := by kernel_rfl
theorem open_fd (M : Meas L Q) {fuel : Nat} {cs : List Value} {x : DataW H × List MemPlace} (h : DataW.trod enc Try.prog W 0 (fun _ => true) true fuel 24 cs = some x) (hq : Q 24 x.1) (hL : L ≤ 140737488351232) :
    ∃ f : Fd, cs = [.int .i64 f.num, .int .i64 f.kind, .int .u64 f.u, .string f.b] ∧ FdOk f := by
  obtain ⟨xs, n, rfl, rfl, hcl, hxl, hf⟩ := DataW.trod_struct Try.underlying24 h
  rw [Try.cells24'] at hcl
  obtain ⟨c0, c1, c2, c3, rfl⟩ := len4 hcl
  obtain ⟨y0, y1, y2, y3, rfl⟩ := len4 (l := xs) hxl
  have f0 : DataW.trod enc Try.prog W 0 (fun _ => true) true n 3 (([c0, c1, c2, c3].drop 0).take (Try.prog.cellsOf 3)) = some y0 := hf 0 _ rfl
  rw [Try.cells3] at f0
  have t0 : DataW.trod enc Try.prog W 0 (fun _ => true) true n 3 [c0] = some y0 := f0
  clear f0
  have f1 : DataW.trod enc Try.prog W 0 (fun _ => true) true n 3 (([c0, c1, c2, c3].drop 1).take (Try.prog.cellsOf 3)) = some y1 := hf 1 _ rfl
  rw [Try.cells3] at f1
  have t1 : DataW.trod enc Try.prog W 0 (fun _ => true) true n 3 [c1] = some y1 := f1
  clear f1
  have f2 : DataW.trod enc Try.prog W 0 (fun _ => true) true n 22 (([c0, c1, c2, c3].drop 2).take (Try.prog.cellsOf 22)) = some y2 := hf 2 _ rfl
  rw [show Try.prog.cellsOf 22 = 1 by kernel_rfl] at f2
  have t2 : DataW.trod enc Try.prog W 0 (fun _ => true) true n 22 [c2] = some y2 := f2
  clear f2
  have f3 : DataW.trod enc Try.prog W 0 (fun _ => true) true n 9 (([c0, c1, c2, c3].drop 3).take (Try.prog.cellsOf 9)) = some y3 := hf 3 _ rfl
  rw [Try.cells9] at f3
  have t3 : DataW.trod enc Try.prog W 0 (fun _ => true) true n 9 [c3] = some y3 := f3
  clear f3
  have q3 : Q 9 y3.1 := M.agg 24 _ _ Try.underlying24 hq 3 _ y3.1 rfl rfl
  obtain ⟨k0, e0, _, w0⟩ := DataW.trod_int Try.underlying3 t0
  simp only [List.cons.injEq, and_true] at e0
  subst e0
  obtain ⟨k1, e1, _, w1⟩ := DataW.trod_int Try.underlying3 t1
  simp only [List.cons.injEq, and_true] at e1
  subst e1
  obtain ⟨k2, e2, _, w2⟩ := DataW.trod_int Try.underlying22 t2
  simp only [List.cons.injEq, and_true] at e2
  subst e2
  obtain ⟨k3, e3, z3⟩ := opens_str M _ _ _ t3 q3
  have e3 : [c3] = [.string k3] := e3
  simp only [List.cons.injEq, and_true] at e3
  subst e3
  exact ⟨⟨k0, k1, k2, k3⟩, rfl, (wf_i64 w0).1, (wf_i64 w0).2, (wf_i64 w1).1, (wf_i64 w1).2, (wf_u64 w2).1, (wf_u64 w2).2, Nat.le_trans z3 hL⟩
end
end Go.Proofs.Ytkcnpnnflbibiaa
namespace Go.Proofs.Ytkcnpnnflbibiaa.pbPasses
open Go.ChangeShapes Go.WideShapes Go.ChangeAt Go.RowKit
open Go.ChangeMaps (open_string shut_string)

set_option maxRecDepth 100000 in
theorem lifted (os : Os) (started : os.Started) (H : Type) (enc : TypeId × Value → H) :
    ReturnsInHanded {} Try.checked os 3 .any (Rows.pbPassesSpec.pre6 enc Try.prog Try.f3 Rows.pbPassesRow.domain false) (Rows.pbPassesSpec.post enc Try.prog Try.f3 false true false false) := by
  refine returnsInHanded_of_change_sized (C := Try.checked) Try.own started (by kernel_rfl) Try.func3
    (ChangeSpec.witness6 (enc := enc) (C := Try.checked) false ⟨#[], #[.string ⟨#[]⟩, .agg #[.int .i64 0, .int .i64 0, .int .u64 0, .string ⟨#[]⟩], .bool false], []⟩ 8 (by kernel_rfl) (by kernel_rfl) (by kernel_rfl) (by kernel_rfl)) ?_
  intro W base args ds gs before hval0 hW hcnd hsz0 _
  have hsz : (DataW.weightsEach Try.prog (Try.f3.params.toList ++ Rows.pbPassesSpec.plain.varTypes Try.prog) (ds ++ gs)).all (· ≤ reachBytes) = true := hsz0
  clear hsz0
  have hval : ∀ (j : Nat) t v, Try.f3.params[j]? = some t → args[j]? = some v → Value.okWide Try.prog W .any base t v := hval0
  have hW' := hW
  obtain ⟨p, q, hA0, hV, rfl, hfz, hnd⟩ := hW
  have hA : DataW.TrodAll enc Try.prog W 0 (fun _ => true) true Try.f3.params.toList args.toList ds p := hA0
  rw [Try.params3] at hA hval hsz
  obtain ⟨v0, vs0, d0, ds0, p0, q0, hargs, rfl, rfl, t0, r0⟩ := trodAll_cons hA
  obtain ⟨v1, vs1, d1, ds1, p1, q1, rfl, rfl, rfl, t1, r1⟩ := trodAll_cons r0
  obtain ⟨v2, vs2, d2, ds2, p2, q2, rfl, rfl, rfl, t2, r2⟩ := trodAll_cons r1
  obtain ⟨rfl, rfl, rfl⟩ := trodAll_nil r2
  obtain rfl : args = #[v0, v1, v2] := by cases args; simp_all
  obtain ⟨rfl, rfl⟩ := trodVars_none hV
  obtain ⟨s0, rfl, rfl, rfl, w0⟩ := open_string Try.underlying9 (hval 0 9 v0 rfl rfl) t0
  have z0 : s0.size ≤ 140737488351232 := by
    have := sized_string hsz (j := 0) (t := 9) rfl rfl
    simp only [reachBytes, Array.length_toList] at this
    exact this
  obtain ⟨cs0, rfl, hcs0⟩ := okWide_struct Try.underlying24 (hval 1 24 v1 rfl rfl)
  have lt1 : ∀ x ∈ p1, x.block < W.heap.size := by obtain ⟨m, hm⟩ := t1; exact DataW.trod_lt m _ _ _ hm
  have hw1 := sized_arg hsz (i := 1) rfl rfl
  obtain ⟨fuel, hf⟩ := id t1
  obtain ⟨f, he, hok⟩ := open_fd meas_reach hf hw1 (Nat.le_refl _)
  have he : cs0.toList = [.int .i64 f.num, .int .i64 f.kind, .int .u64 f.u, .string f.b] := he
  obtain rfl : cs0 = #[.int .i64 f.num, .int .i64 f.kind, .int .u64 f.u, .string f.b] := by cases cs0; simp_all
  obtain ⟨b, rfl, rfl, rfl⟩ := open_bool Try.underlying4 (hval 2 4 v2 rfl rfl) t2
  clear hA0 hval0
  refine (passes_law s0 f.num f.kind f.u f.b b W z0 hok).mono fun e W' ⟨he, bel⟩ => ?_
  subst he
  exact ⟨_, rfl, _, _, _, [], _, [], hW', trodAll_mk1 (shut_bool Try.underlying4 _), (trodAll_cons_mk (shut_string Try.underlying9 w0) (trodAll_cons_mk (Below.trod Try.laidOut (by kernel_rfl) (of_decide_eq_true (by kernel_rfl)) t1 bel lt1) (trodAll_cons_mk (shut_bool Try.underlying4 _) trodAll_mk0))), rfl, bel.frame _, fun h => by cases h⟩

end Go.Proofs.Ytkcnpnnflbibiaa.pbPasses
namespace Go.Proofs.Ytkcnpnnflbibiaa
theorem pbPasses_holds : Rows.PbPassesSaid :=
  OpenClaim.holds_of_wide 3 Try.f3 rfl rfl rfl rfl rfl rfl rfl ⟨rfl, rfl, rfl, rfl, rfl⟩ rfl rfl rfl rfl rfl (by kernel_rfl) Try.func3 (by kernel_rfl)
    (of_decide_eq_true (by kernel_rfl)) (by unfold Func.isWrapper; first | (rw [if_pos (by decide +kernel)]; kernel_rfl) | (rw [if_neg (by decide +kernel)]; exact ⟨rfl, rfl⟩))
    (fun os started H enc _ => pbPasses.lifted os started H enc)
#print axioms pbPasses_holds
end Go.Proofs.Ytkcnpnnflbibiaa
