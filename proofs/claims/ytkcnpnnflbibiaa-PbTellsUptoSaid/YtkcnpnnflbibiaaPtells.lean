/-
  'mandrellaw05.PbTells': for every input the call returns true, and the argument reads behind it as it read before. The bound: what comes in is of bulk at most 1048576.
-/
import Derived.Test.YtkcnpnnflbibiaaZs
import Derived.Test.YtkcnpnnflbibiaaHi
set_option linter.unusedVariables false
namespace Go.Proofs.Ytkcnpnnflbibiaa
open Go.RowKit
theorem copOk_of {L : Nat} {g : Gr} (h : GrB L g) (hL : L ≤ 1048576) : CopOk g := by
  have a1 := h.nodes
  have a2 := h.ins
  have a3 := h.outs
  have a4 := h.inits
  refine ⟨by omega, by omega, by omega, by omega, fun x hx => ?_, fun v hv => ?_, fun v hv => ?_, fun t ht => ?_⟩
  · have b := h.node x hx
    have b1 := b.ins
    have b2 := b.attrs
    refine ⟨by omega, by omega, fun a ha => ?_⟩
    have c := b.every a ha
    have c1 := c.t.dims
    have c2 := c.t.data
    have c3 := c.ints
    exact ⟨by omega, by omega, by omega⟩
  · have := (h.inp v hv).dims; omega
  · have := (h.out v hv).dims; omega
  · have c := (h.init t ht).t
    have c1 := c.dims
    have c2 := c.data
    exact ⟨by omega, by omega⟩
theorem grSz_of {L : Nat} {g : Gr} (h : GrB L g) (hL : L ≤ 140737488351232) : GrSz g := by
  have a1 := h.nodes
  have a2 := h.ins
  have a4 := h.inits
  refine ⟨by omega, fun x hx a ha => ?_⟩
  have c := ((h.node x hx).every a ha).t
  have c1 := c.dims
  have c2 := c.data
  omega
end Go.Proofs.Ytkcnpnnflbibiaa
namespace Go.Proofs.Ytkcnpnnflbibiaa.pbTells
open Go.ChangeShapes Go.WideShapes Go.ChangeAt Go.RowKit

set_option maxRecDepth 100000 in
theorem contract (H : Type) (enc : TypeId × Value → H) (W : World) (base : Nat) (args : Array Value) (ds gs : List (DataW H)) (before : List MemPlace)
    (hval0 : ∀ (j : Nat) t v, Try.f4.params[j]? = some t → args[j]? = some v → Value.okWide Try.prog W .any base t v)
    (hW : DataW.Whole enc Try.prog Try.f4.params.toList Rows.pbTellsSpec.vars false W args.toList ds gs before) (hk : Rows.uptoSmall H (ds ++ gs) = true) :
    Calls Try.prog 4 args W fun e W' => ∃ v, e = .returned v ∧ Rows.pbTellsSpec.post enc Try.prog Try.f4 false true false false W args v W' := by
  have hval : ∀ (j : Nat) t v, Try.f4.params[j]? = some t → args[j]? = some v → Value.okWide Try.prog W .any base t v := hval0
  have hW' := hW
  obtain ⟨p, q, hA0, hV, rfl, hfz, hnd⟩ := hW
  have hA : DataW.TrodAll enc Try.prog W 0 (fun _ => true) true Try.f4.params.toList args.toList ds p := hA0
  rw [Try.params4] at hA hval
  obtain ⟨v0, vs0, d0, ds0, p0, q0, hargs, rfl, rfl, t0, r0⟩ := trodAll_cons hA
  obtain ⟨rfl, rfl, rfl⟩ := trodAll_nil r0
  obtain rfl : args = #[v0] := by cases args; simp_all
  obtain ⟨rfl, rfl⟩ := trodVars_none hV
  obtain ⟨cs0, rfl, hcs0⟩ := okWide_struct Try.underlying34 (hval 0 34 v0 rfl rfl)
  have lt0 : ∀ x ∈ p0, x.block < W.heap.size := by obtain ⟨m, hm⟩ := t0; exact DataW.trod_lt m _ _ _ hm
  clear hA0 hval0
  simp only [List.append_nil] at hk
  have zz : Rows.uptoBulkAll [d0] ≤ 1048576 := of_decide_eq_true hk
  clear hk
  obtain ⟨fuel, hf⟩ := id t0
  obtain ⟨g, hR, hB, hIn⟩ := open2_gr (meas_bulk 1048576) fuel _ _ hf (show Rows.uptoBulk d0 ≤ 1048576 by simp only [Rows.uptoBulkAll] at zz; omega)
  obtain ⟨e1, e2, e3, e4, he, ⟨A1, n1, c1, rfl, s1⟩, ⟨A2, n2, c2, rfl, s2⟩, ⟨A3, n3, c3, rfl, s3⟩, ⟨A4, n4, c4, rfl, s4⟩⟩ := hR
  have he : cs0.toList = [.string g.name, .slice A1 n1 c1, .slice A2 n2 c2, .slice A3 n3 c3, .slice A4 n4 c4] := he
  obtain rfl : cs0 = #[.string g.name, .slice A1 n1 c1, .slice A2 n2 c2, .slice A3 n3 c3, .slice A4 n4 c4] := by cases cs0; simp_all
  obtain rfl := s1.len
  obtain rfl := s2.len
  obtain rfl := s3.len
  obtain rfl := s4.len
  refine (tells_law g W (Here W) A1 A2 A3 A4 c1 c2 c3 c4 ⟨s1, s2, s3, s4⟩ (fun _ h => h) (copOk_of hB (Nat.le_refl _)) hIn (grSz_of hB (by decide))).mono fun e W' ⟨he, bel⟩ => ?_
  subst he
  exact ⟨_, rfl, _, _, _, [], _, [], hW', trodAll_mk1 (shut_bool Try.underlying4 _), (trodAll_cons_mk (Below.trod Try.laidOut (by kernel_rfl) (of_decide_eq_true (by kernel_rfl)) t0 bel lt0) trodAll_mk0), rfl, bel.frame _, fun h => by cases h⟩

set_option maxRecDepth 100000 in
theorem lifted (os : Os) (started : os.Started) (H : Type) (enc : TypeId × Value → H) (F : Stop.Interp) :
    ReturnsInHanded {} Try.checked os 4 .any ((Rows.OpenSpec.upto Rows.pbTellsSpec).pre6 enc Try.prog Try.f4 Rows.pbTellsUptoRow.domain false) (((Rows.OpenSpec.upto Rows.pbTellsSpec).at F).post enc Try.prog Try.f4 false true false false) := by
  refine returnsInHanded_of_cond (C := Try.checked) (s := Rows.OpenSpec.upto Rows.pbTellsSpec) (k := Rows.uptoSmall) rfl Try.own started (by kernel_rfl) Try.func4
    (OpenSpec.witness (enc := enc) (C := Try.checked) (s := Rows.OpenSpec.upto Rows.pbTellsSpec) (k := Rows.uptoSmall) rfl false ⟨#[], #[.agg #[.string ⟨#[]⟩, .slice none 0 0, .slice none 0 0, .slice none 0 0, .slice none 0 0]], []⟩ 8 (by kernel_rfl) (by kernel_rfl) (by kernel_rfl)
      (x := ([.agg [.lit (.string []), .nil, .nil, .nil, .nil]], [], [])) (by kernel_rfl) rfl (by kernel_rfl)) ?_
  intro W base args ds gs before hval hW _ hk _
  exact contract H enc W base args ds gs before hval hW hk

end Go.Proofs.Ytkcnpnnflbibiaa.pbTells
namespace Go.Proofs.Ytkcnpnnflbibiaa
theorem pbTells_holds : Rows.PbTellsUptoSaid :=
  OpenClaim.holds_of_cond 4 Try.f4 rfl rfl rfl rfl rfl rfl rfl ⟨rfl, rfl, rfl, rfl, rfl⟩ rfl rfl rfl rfl rfl (by kernel_rfl) Try.func4 (by kernel_rfl)
    (of_decide_eq_true (by kernel_rfl)) (by unfold Func.isWrapper; first | (rw [if_pos (by decide +kernel)]; kernel_rfl) | (rw [if_neg (by decide +kernel)]; exact ⟨rfl, rfl⟩))
    (fun os started H enc _ F => pbTells.lifted os started H enc F)
#print axioms pbTells_holds
end Go.Proofs.Ytkcnpnnflbibiaa
