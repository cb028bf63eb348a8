import Derived.Test.YtbilddeepnnogaaGreatDoorIam
import Derived.Test.YtbilddeepnnogaaGreatDoorRows
import Derived.ProofKit
import Derived.OpenShut
import Derived.SizedLaws
import Derived.Lib.SmallJoins
import Derived.Shelf.Vars
import Derived.Stop.Joined
import Derived.MakeChecks
import Derived.FnData
import Derived.LaidMore
import Derived.Lay
import Derived.Test.YtbilddeepnnogaaGreatDoorTie
import GoSem.ClaimSeven
import Derived.SevenTiedAt
set_option linter.unusedVariables false
set_option linter.unusedSimpArgs false
/- What TopWide's row gives the walk: the package's variables, the arguments as lists of numbers. -/
section
namespace Go.Proofs.YtbilddeepnnogaaGreatDoor
open Go.ChangeShapes Go.WideShapes Go.ChangeAt Go.RowKit
set_option linter.unusedVariables false

theorem wt_slice {H : Type} {t e : TypeId} {es sp : List (DataW H)} (hu : Tryz.prog.underlying t = some (.slice e)) (hb : Tryz.prog.bytesOf e = 8) (h : ∀ n ∈ (DataW.slice es sp).weights Tryz.prog t, n ≤ 140737488351232) : es.length + sp.length ≤ 140737488351232 := by
  have := h ((es.length + sp.length) * 8) (by rw [DataW.weights, hu]; simp only [hb]; exact List.mem_cons_self)
  omega
theorem arg_nums {H : Type} {enc : TypeId × Value → H} {W : World} {fuel : Nat} {t e : TypeId} {v : Value} {x : DataW H × List MemPlace}
    (ht : Tryz.prog.underlying t = some (.slice e)) (he : Tryz.prog.underlying e = some (.int .i64)) (hc : Tryz.prog.cellsOf e = 1) (hb : Tryz.prog.bytesOf e = 8)
    (hf : DataW.trod enc Tryz.prog W 0 (fun _ => true) true fuel t [v] = some x) (hw : ∀ n ∈ x.1.weights Tryz.prog t, n ≤ 140737488351232) :
    ∃ A l c, v = .slice A (l : List Int).length c ∧ l.length ≤ c ∧ l.length ≤ 140737488355328 ∧ Nums W A l ∧ ∀ p ∈ l, -9223372036854775808 ≤ p ∧ p ≤ 9223372036854775807 := by
  rcases open_ints ht he hc hf with ⟨hcs, hx⟩ | ⟨a, l, c, zs, hcs, _, hl, hm, hz, hx, hcell, hwz⟩
  · obtain rfl : v = .slice none 0 0 := by simpa using hcs
    exact ⟨none, [], 0, rfl, Nat.le_refl _, Nat.zero_le _, fun j d h => by simp at h, fun p h => by cases h⟩
  · obtain rfl : v = .slice (some a) l c := by simpa using hcs
    simp only [if_true] at hz
    have hlen : (zs.take l).length = l := by rw [List.length_take]; omega
    refine ⟨some a, zs.take l, c, by rw [hlen], by omega, ?_, fun j d hj => ?_, fun p hp => ?_⟩
    · subst hx
      have := wt_slice ht hb hw
      simp only [lits, List.length_map, List.length_take, List.length_drop] at this
      omega
    · have hjl : j < l := by
        have := (List.getElem?_eq_some_iff.1 hj).1
        omega
      have h1 := hcell j (by omega)
      obtain ⟨b, off, spot⟩ := a
      have h0 := hcell 0 (by omega)
      have hspot : spot = none := by simpa [Addr.add] using World.cell?_spot h0
      subst hspot
      rw [add_plain] at h1
      rw [List.getElem?_take_of_lt hjl] at hj
      rw [List.getD_eq_getElem?_getD, hj] at h1
      exact ⟨b, off, rfl, h1⟩
    · have := hwz p (List.mem_of_mem_take hp)
      simpa [Lit.wf, IntKind.min, IntKind.max, IntKind.signed, IntKind.bits] using this

theorem str_of {s : ByteArray} {l : List UInt8} (h : (DataW.lit (.string s.data.toList) : DataW Unit) = .lit (.string l)) : s = ⟨l.toArray⟩ := by
  cases s with
  | mk d =>
    simp only [DataW.lit.injEq, Lit.string.injEq] at h
    subst h
    simp

theorem gl_of {W : World} (hs : W.ShapedOpen Tryz.prog) (h : laidMetH Tryz.prog Rows.topWideRow.laid W) : Gl W := by
  have hmax := cell_of_shapedOpen_int (g := 2) (t := 3) (zero := #[.int .i64 0]) hs (of_decide_eq_true (by kernel_rfl)) (by kernel_rfl) rfl (by kernel_rfl) (by kernel_rfl) Tryz.underlying3
  have hlt : 5 ≤ W.heap.size := by
    obtain ⟨cs, hh, _, _⟩ := hs.1 4 (Array.replicate 32 (.int .u8 0)) 491 (of_decide_eq_true (by kernel_rfl)) (by kernel_rfl)
    have := (Array.getElem?_eq_some_iff.1 hh).1
    omega
  refine ⟨hmax, ?_, hlt⟩
  obtain ⟨cs, hh, hsz, _⟩ := hs.1 0 (Array.replicate 10 (.string ⟨#[]⟩)) 400 (of_decide_eq_true (by kernel_rfl)) (by kernel_rfl)
  have hsz' : cs.size = 10 := by simpa using hsz
  rw [MakeChecks.laidMetH_plain _ _ _ (by kernel_rfl)] at h
  obtain ⟨ps, ⟨g0, t0, c0, f0, p0, q0, _, _, _, _, ⟨g, t, cs', fuel, p, q, hg, ht, hv, hd, _, _⟩, _⟩, _, _⟩ := h
  obtain rfl := Option.some.inj ((show Tryz.prog.globalNamed "mandrel/schema.ones" = some 0 by kernel_rfl).symm.trans hg)
  obtain rfl := Option.some.inj ((show (Tryz.prog.globals[0]?).map (·.type) = some 400 by kernel_rfl).symm.trans ht)
  have hcs : cs' = cs := by
    simp only [World.var?, hg, Option.bind_some, hh] at hv
    exact (Option.some.inj hv).symm
  subst hcs
  obtain ⟨xs, m, _, ex, _, hl, hel⟩ := DataW.trod_array Tryz.underlying400 hd
  have c9 : Tryz.prog.cellsOf 9 = 1 := by kernel_rfl
  have hx : xs.map (·.1) = [.lit (.string [73, 100, 101, 110, 116, 105, 116, 121]), .lit (.string [78, 101, 103]), .lit (.string [65, 98, 115]), .lit (.string [78, 111, 116]), .lit (.string [82, 101, 108, 117]), .lit (.string [83, 113, 114, 116]), .lit (.string [70, 108, 111, 111, 114]), .lit (.string [69, 120, 112]), .lit (.string [83, 105, 103, 109, 111, 105, 100]), .lit (.string [84, 97, 110, 104])] := (DataW.agg.inj (Prod.mk.inj ex).1).symm
  have each : ∀ (r : Nat) (b : List UInt8), r < 10 → (xs.map (·.1))[r]? = some (.lit (.string b)) → cs'[r]? = some (.string ⟨b.toArray⟩) := by
    intro r b hr hb
    have hE := hel r hr
    rw [c9, Nat.mul_one, List.getElem?_eq_getElem (by omega)] at hE
    obtain ⟨s, e1, e2, _⟩ := DataW.trod_string Tryz.underlying9 hE
    rw [List.getElem?_map, List.getElem?_eq_getElem (by omega : r < xs.length), e2] at hb
    have := str_of (Option.some.inj hb)
    subst this
    have h0 : ((cs'.toList.drop r).take 1)[0]? = some (.string ⟨b.toArray⟩) := by rw [e1]; rfl
    simpa using h0
  rw [hh]
  have e : cs' = #[.string ⟨#[73, 100, 101, 110, 116, 105, 116, 121]⟩, .string ⟨#[78, 101, 103]⟩, .string ⟨#[65, 98, 115]⟩, .string ⟨#[78, 111, 116]⟩, .string ⟨#[82, 101, 108, 117]⟩, .string ⟨#[83, 113, 114, 116]⟩, .string ⟨#[70, 108, 111, 111, 114]⟩, .string ⟨#[69, 120, 112]⟩, .string ⟨#[83, 105, 103, 109, 111, 105, 100]⟩, .string ⟨#[84, 97, 110, 104]⟩] := by
    apply Array.ext_getElem?
    intro i
    rcases (by omega : i = 0 ∨ i = 1 ∨ i = 2 ∨ i = 3 ∨ i = 4 ∨ i = 5 ∨ i = 6 ∨ i = 7 ∨ i = 8 ∨ i = 9 ∨ 10 ≤ i) with rfl | rfl | rfl | rfl | rfl | rfl | rfl | rfl | rfl | rfl | hi
    all_goals first
      | exact (each _ _ (by omega) (by rw [hx]; rfl)).trans rfl
      | rw [Array.getElem?_eq_none (by omega), Array.getElem?_eq_none (by simpa using hi)]
  rw [e]
end Go.Proofs.YtbilddeepnnogaaGreatDoor
end
/- There is an input that TopWide's row fits: both slices nil, over the three listed variables as they are laid. -/
section
namespace Go.Proofs.YtbilddeepnnogaaGreatDoor
open Go.ChangeShapes Go.WideShapes Go.ChangeAt Go.RowKit
set_option maxRecDepth 100000
noncomputable def W0 (os : Os) : World := World.laidAll Tryz.prog os Rows.topWideRow.laid
def A0 : Array Value := #[.slice none 0 0, .agg #[.int .i64 0, .int .i64 0, .slice none 0 0]]
noncomputable def C0 (os : Os) : World := (W0 os).forCall (fun _ _ => 0) ⟨#[], A0, []⟩
theorem w0_zip (os : Os) : (C0 os).variablesZipB Tryz.prog = true := by kernel_rfl
theorem w0_rest (os : Os) : ((C0 os).heap.toList.drop Tryz.prog.globals.size).take ((begin Tryz.prog (fun _ _ => 0) default).world.heap.size - Tryz.prog.globals.size) =
      (begin Tryz.prog (fun _ _ => 0) default).world.heap.toList.drop Tryz.prog.globals.size := by kernel_rfl
theorem w0_ok (os : Os) : Input.okWideB Tryz.prog (C0 os) 3 ⟨#[], A0, []⟩ = true := by kernel_rfl
theorem w0_pre (os : Os) {H : Type} (enc : TypeId × Value → H) : Rows.topWideSpec.preB enc Tryz.prog Tryz.f3 [] false (C0 os).memory A0 8 = true := by kernel_rfl
theorem w0_size (os : Os) {H : Type} (enc : TypeId × Value → H) : Rows.topWideSpec.sizedB enc Tryz.prog Tryz.f3 false (C0 os).memory A0 8 = true := by kernel_rfl
theorem w0_laid (os : Os) : laidMetH Tryz.prog Rows.topWideRow.laid (C0 os).memory := by
  rw [MakeChecks.laidMetH_plain _ _ _ (by kernel_rfl)]
  exact laidMet_laidAll _ (by kernel_rfl) (by kernel_rfl)
theorem witness0 (os : Os) {H : Type} (enc : TypeId × Value → H) :
    ∃ (w : World) (tape : Tape) (i : Input), w.os = os ∧ (w.forCall tape i).Shaped Tryz.checked.prog ∧ i.vars = [] ∧ Input.okWide Tryz.checked.prog (w.forCall tape i) .any w.heap.size 3 i ∧
      ((Rows.topWideSpec.pre enc Tryz.checked.prog Tryz.f3 [] false (w.forCall tape i).memory i.args ∧ laidMetH Tryz.prog Rows.topWideRow.laid (w.forCall tape i).memory) ∧ sizedMet enc Tryz.checked.prog Tryz.f3 (OpenSpec.ofChange Rows.topWideSpec) false (w.forCall tape i).memory i.args) ∧
      ({ modest := false } : Assume).holds Tryz.checked.prog (lone (Frame.enter Tryz.checked.prog 3 i.args .normal) [] (w.forCall tape i)) :=
  ChangeSpec.witness_shaped (enc := enc) (C := Tryz.checked) (os := os) (fn := Tryz.f3) (s := Rows.topWideSpec) (conds := []) (apart := false) (X := fun w _ => laidMetH Tryz.prog Rows.topWideRow.laid w) false (W0 os) A0 8 (World.laidAll_os _ _ _)
    (World.shaped_of_ZipB (w0_zip os) (w0_rest os)) (w0_ok os) (w0_pre os enc) (w0_size os enc) (w0_laid os)
end Go.Proofs.YtbilddeepnnogaaGreatDoor
end
section
namespace Go.Proofs.YtbilddeepnnogaaGreatDoor
set_option maxRecDepth 100000
theorem goes_none (P : Program) (h : P.funcs.any Func.goes = false) (f : FuncId) : P.goes f = false := by
  have h2 : ∀ (g : Nat) (fn : Func), P.funcs[g]? = some fn → Func.goes fn = false := by
    intro g fn hg
    rw [Array.any_eq_false] at h
    obtain ⟨hlt, rfl⟩ := Array.getElem?_eq_some_iff.1 hg
    have := h g hlt
    simpa using this
  unfold Program.goes
  rw [h, Bool.and_false, Bool.or_false, List.any_eq_false]
  intro g _ hx
  cases hg : P.funcs[g]? with
  | none => rw [hg] at hx; cases hx
  | some fn =>
    rw [hg] at hx
    have := h2 g fn hg
    simp [this] at hx
theorem no_go : Tryz.prog.funcs.any Func.goes = false := by kernel_rfl
theorem goes_from (P : Program) (h : P.funcs.any Func.goes = false) (s : String) : P.goesFrom s = false := by
  unfold Program.goesFrom
  cases P.funcNamed s with
  | none => rfl
  | some f => exact goes_none P h f
theorem goes_at (P : Program) (h : P.funcs.any Func.goes = false) (c : OpenClaim) (hs : c.start = .entering) : false = c.goesBy P := by
  unfold OpenClaim.goesBy Program.goesAt
  rw [goes_from P h, hs]; rfl
theorem goes_row : false = Rows.topWideRow.goesBy Tryz.pinned.checked.prog := goes_at _ no_go _ rfl
#print axioms goes_row
end Go.Proofs.YtbilddeepnnogaaGreatDoor
end
