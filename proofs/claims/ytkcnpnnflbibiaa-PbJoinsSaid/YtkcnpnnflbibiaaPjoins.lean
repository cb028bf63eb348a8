/-
  'mandrellaw05.PbJoins': for every input the call returns true, and each argument reads behind it as it read before. No condition.
-/
import Derived.Test.YtkcnpnnflbibiaaZs
import Derived.Test.YtkcnpnnflbibiaaHk
set_option linter.unusedVariables false
namespace Go.Proofs.Ytkcnpnnflbibiaa
open Go.ChangeShapes Go.WideShapes Go.ChangeAt Go.RowKit
theorem grSz_in {L : Nat} {g : Gr} (h : GrB L g) (hL : L ≤ 140737488351232) : GrSz g := by
  have a1 := h.nodes
  have a2 := h.ins
  have a4 := h.inits
  refine ⟨by omega, fun x hx a ha => ?_⟩
  have c := ((h.node x hx).every a ha).t
  have c1 := c.dims
  have c2 := c.data
  omega
set_option maxRecDepth 100000 in
/-- A graph that came in, laid open. -/
theorem graph_in {H : Type} {enc : TypeId × Value → H} {W : World} {base : Nat} {v : Value} {d : DataW H} {p : List MemPlace} (hv : Value.okWide Try.prog W .any base 34 v) (t : DataW.Trod enc Try.prog W 0 (fun _ => true) true 34 v d p) (hw : ∀ n ∈ d.weights Try.prog 34, n ≤ 140737488351232) :
    ∃ g A1 c1 A2 c2 A3 c3 A4 c4, v = .agg #[.string g.name, .slice A1 g.nodes.length c1, .slice A2 g.ins.length c2, .slice A3 g.outs.length c3, .slice A4 g.inits.length c4] ∧ GrAt g W (Here W) A1 g.nodes.length A2 g.ins.length A3 g.outs.length A4 g.inits.length ∧ GrIn g ∧ GrSz g := by
  obtain ⟨cs0, rfl, hcs0⟩ := okWide_struct Try.underlying34 hv
  obtain ⟨fuel, hf⟩ := t
  obtain ⟨g, hR, hB, hIn⟩ := open2_gr meas_reach fuel _ _ hf hw
  obtain ⟨e1, e2, e3, e4, he, ⟨A1, n1, c1, rfl, s1⟩, ⟨A2, n2, c2, rfl, s2⟩, ⟨A3, n3, c3, rfl, s3⟩, ⟨A4, n4, c4, rfl, s4⟩⟩ := hR
  have he : cs0.toList = [.string g.name, .slice A1 n1 c1, .slice A2 n2 c2, .slice A3 n3 c3, .slice A4 n4 c4] := he
  obtain rfl : cs0 = #[.string g.name, .slice A1 n1 c1, .slice A2 n2 c2, .slice A3 n3 c3, .slice A4 n4 c4] := by cases cs0; simp_all
  obtain rfl := s1.len
  obtain rfl := s2.len
  obtain rfl := s3.len
  obtain rfl := s4.len
  exact ⟨g, A1, c1, A2, c2, A3, c3, A4, c4, rfl, ⟨s1, s2, s3, s4⟩, hIn, grSz_in hB (Nat.le_refl _)⟩
end Go.Proofs.Ytkcnpnnflbibiaa
namespace Go.Proofs.Ytkcnpnnflbibiaa.pbJoins
open Go.ChangeShapes Go.WideShapes Go.ChangeAt Go.RowKit

set_option maxRecDepth 100000 in
theorem lifted (os : Os) (started : os.Started) (H : Type) (enc : TypeId × Value → H) :
    ReturnsInHanded {} Try.checked os 6 .any (Rows.pbJoinsSpec.pre6 enc Try.prog Try.f6 Rows.pbJoinsRow.domain false) (Rows.pbJoinsSpec.post enc Try.prog Try.f6 false true false false) := by
  refine returnsInHanded_of_change_sized (C := Try.checked) Try.own started (by kernel_rfl) Try.func6
    (ChangeSpec.witness6 (enc := enc) (C := Try.checked) false ⟨#[], #[.agg #[.string ⟨#[]⟩, .slice none 0 0, .slice none 0 0, .slice none 0 0, .slice none 0 0], .agg #[.string ⟨#[]⟩, .slice none 0 0, .slice none 0 0, .slice none 0 0, .slice none 0 0]], []⟩ 8 (by kernel_rfl) (by kernel_rfl) (by kernel_rfl) (by kernel_rfl)) ?_
  intro W base args ds gs before hval0 hW hcnd hsz0 _
  have hsz : (DataW.weightsEach Try.prog (Try.f6.params.toList ++ Rows.pbJoinsSpec.plain.varTypes Try.prog) (ds ++ gs)).all (· ≤ reachBytes) = true := hsz0
  clear hsz0
  have hval : ∀ (j : Nat) t v, Try.f6.params[j]? = some t → args[j]? = some v → Value.okWide Try.prog W .any base t v := hval0
  have hW' := hW
  obtain ⟨p, q, hA0, hV, rfl, hfz, hnd⟩ := hW
  have hA : DataW.TrodAll enc Try.prog W 0 (fun _ => true) true Try.f6.params.toList args.toList ds p := hA0
  rw [Try.params6] at hA hval hsz
  obtain ⟨v0, vs0, d0, ds0, p0, q0, hargs, rfl, rfl, t0, r0⟩ := trodAll_cons hA
  obtain ⟨v1, vs1, d1, ds1, p1, q1, rfl, rfl, rfl, t1, r1⟩ := trodAll_cons r0
  obtain ⟨rfl, rfl, rfl⟩ := trodAll_nil r1
  obtain rfl : args = #[v0, v1] := by cases args; simp_all
  obtain ⟨rfl, rfl⟩ := trodVars_none hV
  have lt0 : ∀ x ∈ p0, x.block < W.heap.size := by obtain ⟨m, hm⟩ := t0; exact DataW.trod_lt m _ _ _ hm
  have lt1 : ∀ x ∈ p1, x.block < W.heap.size := by obtain ⟨m, hm⟩ := t1; exact DataW.trod_lt m _ _ _ hm
  obtain ⟨g, A1, a1, A2, a2, A3, a3, A4, a4, rfl, hg, hig, hsg⟩ := graph_in (hval 0 34 v0 rfl rfl) t0 (sized_arg hsz (i := 0) rfl rfl)
  obtain ⟨h, B1, b1, B2, b2, B3, b3, B4, b4, rfl, hh, hih, hsh⟩ := graph_in (hval 1 34 v1 rfl rfl) t1 (sized_arg hsz (i := 1) rfl rfl)
  clear hA0 hval0
  refine (joins_law g h W (Here W) A1 A2 A3 A4 B1 B2 B3 B4 a1 a2 a3 a4 b1 b2 b3 b4 hg hh (fun _ h => h) hig hih hsg hsh).mono fun e W' ⟨he, bel⟩ => ?_
  subst he
  exact ⟨_, rfl, _, _, _, [], _, [], hW', trodAll_mk1 (shut_bool Try.underlying4 _), (trodAll_cons_mk (Below.trod Try.laidOut (by kernel_rfl) (of_decide_eq_true (by kernel_rfl)) t0 bel lt0) (trodAll_cons_mk (Below.trod Try.laidOut (by kernel_rfl) (of_decide_eq_true (by kernel_rfl)) t1 bel lt1) trodAll_mk0)), rfl, bel.frame _, fun h => by cases h⟩

end Go.Proofs.Ytkcnpnnflbibiaa.pbJoins
namespace Go.Proofs.Ytkcnpnnflbibiaa
theorem pbJoins_holds : Rows.PbJoinsSaid :=
  OpenClaim.holds_of_wide 6 Try.f6 rfl rfl rfl rfl rfl rfl rfl ⟨rfl, rfl, rfl, rfl, rfl⟩ rfl rfl rfl rfl rfl (by kernel_rfl) Try.func6 (by kernel_rfl)
    (of_decide_eq_true (by kernel_rfl)) (by unfold Func.isWrapper; first | (rw [if_pos (by decide +kernel)]; kernel_rfl) | (rw [if_neg (by decide +kernel)]; exact ⟨rfl, rfl⟩))
    (fun os started H enc _ => pbJoins.lifted os started H enc)
#print axioms pbJoins_holds
end Go.Proofs.Ytkcnpnnflbibiaa
