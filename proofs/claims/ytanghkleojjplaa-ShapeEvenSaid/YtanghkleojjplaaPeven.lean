/-
  'mandrellaw03.ShapeEven': for every input the call returns true, and each argument reads behind it as it read before. No condition.
-/
import Derived.Test.YtanghkleojjplaaFrame
import Derived.Test.YtanghkleojjplaaWj
namespace Go.Proofs.Ytanghkleojjplaa.shapeEven
open Go.ChangeShapes Go.WideShapes Go.ChangeAt Go.RowKit
set_option linter.unusedVariables false

set_option maxRecDepth 100000 in
theorem lifted (os : Os) (started : os.Started) (H : Type) (enc : TypeId × Value → H) :
    ReturnsInHanded {} Try.checked os 8 .any (Rows.shapeEvenSpec.pre6 enc Try.prog Try.f8 Rows.shapeEvenRow.domain false) (Rows.shapeEvenSpec.post enc Try.prog Try.f8 false true false false) := by
  refine returnsInHanded_of_change_sized (C := Try.checked) Try.own started (by kernel_rfl) Try.func8
    (ChangeSpec.witness6 (enc := enc) (C := Try.checked) false ⟨#[], #[.slice none 0 0, .slice none 0 0, .slice none 0 0], []⟩ 8 (by kernel_rfl) (by kernel_rfl) (by kernel_rfl) (by kernel_rfl)) ?_
  intro W base args ds gs before hval0 hW hcnd hsz0 _
  have hsz : (DataW.weightsEach Try.prog (Try.f8.params.toList ++ Rows.shapeEvenSpec.plain.varTypes Try.prog) (ds ++ gs)).all (· ≤ reachBytes) = true := hsz0
  clear hsz0
  have hval : ∀ (j : Nat) t v, Try.f8.params[j]? = some t → args[j]? = some v → Value.okWide Try.prog W .any base t v := hval0
  have hW' := hW
  obtain ⟨p, q, hA0, hV, rfl, hfz, hnd⟩ := hW
  have hA : DataW.TrodAll enc Try.prog W 0 (fun _ => true) true Try.f8.params.toList args.toList ds p := hA0
  rw [Try.params8] at hA hval hsz
  obtain ⟨v0, vs0, d0, ds0, p0, q0, hargs, rfl, rfl, t0, r0⟩ := trodAll_cons hA
  obtain ⟨v1, vs1, d1, ds1, p1, q1, rfl, rfl, rfl, t1, r1⟩ := trodAll_cons r0
  obtain ⟨v2, vs2, d2, ds2, p2, q2, rfl, rfl, rfl, t2, r2⟩ := trodAll_cons r1
  obtain ⟨rfl, rfl, rfl⟩ := trodAll_nil r2
  obtain rfl : args = #[v0, v1, v2] := by cases args; simp_all
  obtain ⟨rfl, rfl⟩ := trodVars_none hV
  obtain ⟨a0, n0, c0, rfl⟩ := okWide_slice Try.underlying22 (hval 0 22 v0 rfl rfl)
  have lt0 : ∀ x ∈ p0, x.block < W.heap.size := by obtain ⟨m, hm⟩ := t0; exact DataW.trod_lt m _ _ _ hm
  obtain ⟨l0, h0, nc0, e0⟩ := arg_ints t0
  have z0 : n0 * 8 ≤ 140737488351232 := by
    rcases e0 with ⟨_, rfl⟩ | ⟨es, sp, hd, hle⟩
    · omega
    · have := sized_slice hsz (j := 0) (t := 22) (e := 3) rfl (by rw [hd]; rfl) Try.underlying22
      rw [Try.bytes3] at this
      simp only [reachBytes] at this
      omega
  obtain ⟨a1, n1, c1, rfl⟩ := okWide_slice Try.underlying22 (hval 1 22 v1 rfl rfl)
  have lt1 : ∀ x ∈ p1, x.block < W.heap.size := by obtain ⟨m, hm⟩ := t1; exact DataW.trod_lt m _ _ _ hm
  obtain ⟨l1, h1, nc1, e1⟩ := arg_ints t1
  have z1 : n1 * 8 ≤ 140737488351232 := by
    rcases e1 with ⟨_, rfl⟩ | ⟨es, sp, hd, hle⟩
    · omega
    · have := sized_slice hsz (j := 1) (t := 22) (e := 3) rfl (by rw [hd]; rfl) Try.underlying22
      rw [Try.bytes3] at this
      simp only [reachBytes] at this
      omega
  obtain ⟨a2, n2, c2, rfl⟩ := okWide_slice Try.underlying22 (hval 2 22 v2 rfl rfl)
  have lt2 : ∀ x ∈ p2, x.block < W.heap.size := by obtain ⟨m, hm⟩ := t2; exact DataW.trod_lt m _ _ _ hm
  obtain ⟨l2, h2, nc2, e2⟩ := arg_ints t2
  have z2 : n2 * 8 ≤ 140737488351232 := by
    rcases e2 with ⟨_, rfl⟩ | ⟨es, sp, hd, hle⟩
    · omega
    · have := sized_slice hsz (j := 2) (t := 22) (e := 3) rfl (by rw [hd]; rfl) Try.underlying22
      rw [Try.bytes3] at this
      simp only [reachBytes] at this
      omega
  clear hA0 hval0
  refine (even_law W a0 a1 a2 n0 c0 n1 c1 n2 c2 l0 l1 l2 h0 h1 h2).mono fun e W' ⟨he, bel⟩ => ?_
  subst he
  exact ⟨_, rfl, _, _, _, [], _, [], hW', trodAll_mk1 (shut_bool Try.underlying4 _), (trodAll_cons_mk (Below.trod Try.laidOut (by kernel_rfl) (of_decide_eq_true (by kernel_rfl)) t0 bel lt0) (trodAll_cons_mk (Below.trod Try.laidOut (by kernel_rfl) (of_decide_eq_true (by kernel_rfl)) t1 bel lt1) (trodAll_cons_mk (Below.trod Try.laidOut (by kernel_rfl) (of_decide_eq_true (by kernel_rfl)) t2 bel lt2) trodAll_mk0))), rfl, bel.frame _, fun h => by cases h⟩

end Go.Proofs.Ytanghkleojjplaa.shapeEven
namespace Go.Proofs.Ytanghkleojjplaa
theorem shapeEven_holds : Rows.ShapeEvenSaid :=
  OpenClaim.holds_of_wide 8 Try.f8 rfl rfl rfl rfl rfl rfl rfl ⟨rfl, rfl, rfl, rfl, rfl⟩ rfl rfl rfl rfl rfl (by kernel_rfl) Try.func8 (by kernel_rfl)
    (of_decide_eq_true (by kernel_rfl)) (by unfold Func.isWrapper; first | (rw [if_pos (by decide +kernel)]; kernel_rfl) | (rw [if_neg (by decide +kernel)]; exact ⟨rfl, rfl⟩))
    (fun os started H enc _ => shapeEven.lifted os started H enc)
#print axioms shapeEven_holds
end Go.Proofs.Ytanghkleojjplaa
