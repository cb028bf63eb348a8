/-
  'mandrellaw05.PbTensors': for every input the call returns true, and each argument reads behind it as it read before. No condition.
-/
import Derived.Test.YtkcnpnnflbibiaaZr
import Derived.Test.YtkcnpnnflbibiaaFi
namespace Go.Proofs.Ytkcnpnnflbibiaa.pbTensors
open Go.ChangeShapes Go.WideShapes Go.ChangeAt Go.RowKit
set_option linter.unusedVariables false

set_option maxRecDepth 100000 in
theorem lifted (os : Os) (started : os.Started) (H : Type) (enc : TypeId × Value → H) :
    ReturnsInHanded {} Try.checked os 5 .any (Rows.pbTensorsSpec.pre6 enc Try.prog Try.f5 Rows.pbTensorsRow.domain false) (Rows.pbTensorsSpec.post enc Try.prog Try.f5 false true false false) := by
  refine returnsInHanded_of_change_sized (C := Try.checked) Try.own started (by kernel_rfl) Try.func5
    (ChangeSpec.witness6 (enc := enc) (C := Try.checked) false ⟨#[], #[.agg #[.int .i64 0, .slice none 0 0, .slice none 0 0]], []⟩ 8 (by kernel_rfl) (by kernel_rfl) (by kernel_rfl) (by kernel_rfl)) ?_
  intro W base args ds gs before hval0 hW hcnd hsz0 _
  have hsz : (DataW.weightsEach Try.prog (Try.f5.params.toList ++ Rows.pbTensorsSpec.plain.varTypes Try.prog) (ds ++ gs)).all (· ≤ reachBytes) = true := hsz0
  clear hsz0
  have hval : ∀ (j : Nat) t v, Try.f5.params[j]? = some t → args[j]? = some v → Value.okWide Try.prog W .any base t v := hval0
  have hW' := hW
  obtain ⟨p, q, hA0, hV, rfl, hfz, hnd⟩ := hW
  have hA : DataW.TrodAll enc Try.prog W 0 (fun _ => true) true Try.f5.params.toList args.toList ds p := hA0
  rw [Try.params5] at hA hval hsz
  obtain ⟨v0, vs0, d0, ds0, p0, q0, hargs, rfl, rfl, t0, r0⟩ := trodAll_cons hA
  obtain ⟨rfl, rfl, rfl⟩ := trodAll_nil r0
  obtain rfl : args = #[v0] := by cases args; simp_all
  obtain ⟨rfl, rfl⟩ := trodVars_none hV
  obtain ⟨cs0, rfl, hcs0⟩ := okWide_struct Try.underlying47 (hval 0 47 v0 rfl rfl)
  have lt0 : ∀ x ∈ p0, x.block < W.heap.size := by obtain ⟨m, hm⟩ := t0; exact DataW.trod_lt m _ _ _ hm
  obtain ⟨t, hR, _⟩ := arg_tn t0 (sized_arg hsz (i := 0) rfl rfl)
  obtain ⟨d, e, he, ⟨A1, n1, c1, rfl, s1⟩, ⟨A2, n2, c2, rfl, s2⟩⟩ := hR
  have he : cs0.toList = [.int .i64 t.typ, .slice A1 n1 c1, .slice A2 n2 c2] := he
  obtain rfl : cs0 = #[.int .i64 t.typ, .slice A1 n1 c1, .slice A2 n2 c2] := by cases cs0; simp_all
  clear hA0 hval0
  refine (tensors_law t W W.heap.size A1 A2 n1 c1 n2 c2 (slc_ints s1 (fun _ h => h)) (slc_ints s2 (fun _ h => h)) (Nat.le_refl _)).mono fun e W' ⟨he, bel⟩ => ?_
  subst he
  exact ⟨_, rfl, _, _, _, [], _, [], hW', trodAll_mk1 (shut_bool Try.underlying4 _), (trodAll_cons_mk (Below.trod Try.laidOut (by kernel_rfl) (of_decide_eq_true (by kernel_rfl)) t0 bel lt0) trodAll_mk0), rfl, bel.frame _, fun h => by cases h⟩

end Go.Proofs.Ytkcnpnnflbibiaa.pbTensors
namespace Go.Proofs.Ytkcnpnnflbibiaa
theorem pbTensors_holds : Rows.PbTensorsSaid :=
  OpenClaim.holds_of_wide 5 Try.f5 rfl rfl rfl rfl rfl rfl rfl ⟨rfl, rfl, rfl, rfl, rfl⟩ rfl rfl rfl rfl rfl (by kernel_rfl) Try.func5 (by kernel_rfl)
    (of_decide_eq_true (by kernel_rfl)) (by unfold Func.isWrapper; first | (rw [if_pos (by decide +kernel)]; kernel_rfl) | (rw [if_neg (by decide +kernel)]; exact ⟨rfl, rfl⟩))
    (fun os started H enc _ => pbTensors.lifted os started H enc)
#print axioms pbTensors_holds
end Go.Proofs.Ytkcnpnnflbibiaa
