/- 'mandreltop.TopWide': for every input the call returns true, and each argument reads behind it as it read before. The row, and the tied card. -/
import Derived.Test.YtbilddeepnnogaaGreatDoorKj
import Derived.Test.YtbilddeepnnogaaGreatDoorKkm
import Derived.Test.YtbilddeepnnogaaGreatDoorKl
import Derived.Test.YtbilddeepnnogaaGreatDoorTie
import Derived.Test.YtbilddeepnnogaaGreatDoorCards
import Derived.OpenShut
import Derived.ShutString
import Derived.ChangeOld
import Derived.Deep.DeepHandedRow
import Derived.JoinedCond
import Derived.SevenTiedAt
set_option linter.unusedVariables false
set_option linter.unusedSimpArgs false
namespace Go.Proofs.YtbilddeepnnogaaGreatDoor
open Go.ChangeShapes Go.WideShapes Go.ChangeAt Go.RowKit
set_option linter.unusedVariables false
set_option maxRecDepth 100000

theorem own : ownKnob Tryz.prog.godebug = none := by kernel_rfl
theorem laidOut : laidOutB Tryz.prog = true := by kernel_rfl
set_option maxHeartbeats 2000000 in
theorem lifted (os : Os) (started : os.Started) (H : Type) (enc : TypeId × Value → H) :
    ReturnsInHanded {} Tryz.checked os 3 .any ((OpenSpec.ofChange Rows.topWideSpec).preRow enc Tryz.prog Tryz.f3 [] false Rows.topWideRow.laid)
      (Rows.topWideSpec.post enc Tryz.prog Tryz.f3 false true false false) := by
  refine returnsInHanded_of_row (C := Tryz.checked) (s := OpenSpec.ofChange Rows.topWideSpec) (F := fun _ _ _ => 0) own started (by kernel_rfl) Tryz.func3 (witness0 os enc) ?_
  intro W base args ds gs before hval0 hW _ _ hsz0 hL hsh _
  have hsz : (DataW.weightsEach Tryz.prog (Tryz.f3.params.toList ++ Rows.topWideSpec.plain.varTypes Tryz.prog) (ds ++ gs)).all (· ≤ reachBytes) = true := hsz0
  clear hsz0
  have hval : ∀ (j : Nat) t v, Tryz.f3.params[j]? = some t → args[j]? = some v → Value.okWide Tryz.prog W .any base t v := hval0
  have hW' := hW
  obtain ⟨p, q, hA0, hV, rfl, hfz, hnd⟩ := hW
  have hA : DataW.TrodAll enc Tryz.prog W 0 (fun _ => true) true Tryz.f3.params.toList args.toList ds p := hA0
  rw [Tryz.params3] at hA hval hsz
  obtain ⟨v0, v1, d0, d1, p0, p1, rfl, rfl, rfl, t0, t1⟩ := trodAll_two hA
  obtain ⟨rfl, rfl⟩ := trodVars_none hV
  have lt0 : ∀ x ∈ p0, x.block < W.heap.size := by obtain ⟨m, hm⟩ := t0; exact DataW.trod_lt m _ _ _ hm
  have lt1 : ∀ x ∈ p1, x.block < W.heap.size := by obtain ⟨m, hm⟩ := t1; exact DataW.trod_lt m _ _ _ hm
  have hw0 : ∀ n ∈ d0.weights Tryz.prog 22, n ≤ 140737488351232 := fun n hn => by
    have := List.all_eq_true.1 hsz n (DataW.weights_mem_each (j := 0) rfl rfl n hn)
    exact of_decide_eq_true this
  have hw1 : ∀ n ∈ d1.weights Tryz.prog 25, n ≤ 140737488351232 := fun n hn => by
    have := List.all_eq_true.1 hsz n (DataW.weights_mem_each (j := 1) rfl rfl n hn)
    exact of_decide_eq_true this
  have t0' := t0
  have t1' := t1
  obtain ⟨a0, n0, c0, rfl⟩ := okWide_slice Tryz.underlying22 (hval 0 22 v0 rfl rfl)
  obtain ⟨f0, hf0⟩ := t0
  obtain ⟨Ax, xs, cx, e0, hx1, hx2, hx3, hx4⟩ := arg_nums Tryz.underlying22 Tryz.underlying2 (by kernel_rfl) (by kernel_rfl) hf0 hw0
  obtain ⟨u0, u1, u2, y0, y1, y2, m, rfl, rfl, rfl, hy0, hy1, hy2⟩ := Go.Joins.open_agg3 Tryz.underlying25 (by kernel_rfl) (by kernel_rfl) (hval 1 25 v1 rfl rfl) t1
  obtain ⟨mk, e1, -, wm⟩ := DataW.trod_int Tryz.underlying3 hy0
  obtain ⟨sz, e2, -, ws⟩ := DataW.trod_int Tryz.underlying3 hy1
  have hw2 : ∀ n ∈ y2.1.weights Tryz.prog 23, n ≤ 140737488351232 := fun n hn => hw1 n (by
    rw [DataW.weights, Tryz.underlying25]
    exact DataW.weights_mem_each (j := 2) rfl rfl n hn)
  obtain ⟨Pk, ps, ck, e3, hp1, hp2, hp3, hp4⟩ := arg_nums Tryz.underlying23 Tryz.underlying3 (by kernel_rfl) (by kernel_rfl) hy2 hw2
  obtain rfl : u0 = .int .i64 mk := by simpa using e1
  obtain rfl : u1 = .int .i64 sz := by simpa using e2
  subst e3
  cases e0
  have hm : -9223372036854775808 ≤ mk ∧ mk ≤ 9223372036854775807 := by simpa [Lit.wf, IntKind.min, IntKind.max, IntKind.signed, IntKind.bits] using wm
  have hz : -9223372036854775808 ≤ sz ∧ sz ≤ 9223372036854775807 := by simpa [Lit.wf, IntKind.min, IntKind.max, IntKind.signed, IntKind.bits] using ws
  clear hA0 hval0
  refine (topWide_any a0 Pk c0 ck xs ps mk sz W (gl_of hsh hL) hx3 hx1 hx2 hx4 hp3 hp2 hp4 hm hz).mono fun e W' ⟨he, bel⟩ => ?_
  subst he
  have bel' : Below W.heap.size W W' := bel
  exact ⟨_, rfl, _, _, _, [], _, [], hW', trodAll_mk1 (shut_bool Tryz.underlying4 _), (trodAll_cons_mk (Below.trod laidOut (by kernel_rfl) (of_decide_eq_true (by kernel_rfl)) t0' bel' lt0) (trodAll_cons_mk (Below.trod laidOut (by kernel_rfl) (of_decide_eq_true (by kernel_rfl)) t1' bel' lt1) trodAll_mk0)), rfl, bel'.frame _, fun h => by cases h⟩

theorem topWide_holds : Rows.TopWideSaid :=
  OpenClaim.holds_of_wide 3 Tryz.f3 rfl rfl rfl rfl rfl rfl rfl ⟨rfl, rfl, rfl, rfl, rfl⟩ rfl rfl rfl rfl rfl (by kernel_rfl) Tryz.func3 closed
    (of_decide_eq_true (by kernel_rfl)) (by unfold Func.isWrapper; first | (rw [if_pos (by decide +kernel)]; kernel_rfl) | (rw [if_neg (by decide +kernel)]; exact ⟨rfl, rfl⟩))
    (fun os started H enc _ => lifted os started H enc)
theorem topWideCard_holds : Rows.TopWideCardSaid :=
  Claim7.holds_tied_plain_at .later [] [.data, .data, .pinned] true (true, "f8f1a3f33f1683e0a4a87a34f269de2dd5878b17edd1cdc412db4e2cce541776") true topWide_holds (fun _ h => by cases h) (by kernel_rfl) (fun _ h => by cases h) topWide_row_tie rfl ⟨rfl, rfl⟩ mainIs rfl
    (fun f fn hf hfn => by
      obtain rfl : f = 3 := Option.some.inj ((show Tryz.prog.funcNamed "mandrel/mandreltop.TopWide" = some 3 by kernel_rfl).symm.trans hf) |>.symm
      obtain rfl : fn = Tryz.f3 := (Option.some.inj (Tryz.func3.symm.trans hfn)).symm
      exact ⟨looks, fun j t ht => by
        rw [Tryz.params3] at ht
        have hm : t ∈ [22, 25] := by simpa using Array.mem_of_getElem? ht
        have hall : ([22, 25].all fun u => !Tryz.prog.wantsStandIn u) = true := by kernel_rfl
        exact (show Tryz.prog.wantsStandIn t = false by simpa using List.all_eq_true.1 hall t hm)⟩)
    goes_row
#print axioms topWide_holds
#print axioms topWideCard_holds
end Go.Proofs.YtbilddeepnnogaaGreatDoor
