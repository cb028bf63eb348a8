/- What the rows of this seat share: a slice of integers that came in reads as a list. -/
import Derived.Test.YtanghkleojjplaaMem
import Derived.ProofKit
import Derived.OpenShut
import Derived.ShutString
import Derived.ChangeOld
import Derived.SizedLaws
namespace Go.Proofs.Ytanghkleojjplaa
open Go.ChangeShapes Go.WideShapes Go.ChangeAt Go.RowKit

theorem Try.own : ownKnob Try.prog.godebug = none := by kernel_rfl
theorem Try.laidOut : laidOutB Try.prog = true := by kernel_rfl
theorem Try.bytes3 : Try.prog.bytesOf 3 = 8 := by kernel_rfl
theorem Try.cells3 : Try.prog.cellsOf 3 = 1 := by kernel_rfl

theorem arg_ints {H : Type} {enc : TypeId × Value → H} {W : World} {d : DataW H} {p : List MemPlace} {a : Option Addr} {len cap : Nat}
    (h : DataW.Trod enc Try.prog W 0 (fun _ => true) true 22 (.slice a len cap) d p) :
    ∃ l, Ints W W.heap.size a len l ∧ len ≤ cap ∧ ((d = .nil ∧ len = 0) ∨ ∃ es sp, d = .slice es sp ∧ len ≤ es.length + sp.length) := by
  obtain ⟨fuel, hf⟩ := h
  rcases open_ints Try.underlying22 Try.underlying3 Try.cells3 hf with ⟨hcs, hx⟩ | ⟨x, l, c, zs, hcs, _, hl, hm, hz, hx, hcell, hwz⟩
  · simp [Value.cells] at hcs
    obtain ⟨rfl, rfl, rfl⟩ := hcs
    simp only [Prod.mk.injEq] at hx
    exact ⟨[], ⟨rfl, Nat.zero_le _, fun h => absurd h (by omega)⟩, Nat.le_refl _, .inl ⟨hx.1, rfl⟩⟩
  · simp [Value.cells] at hcs
    obtain ⟨rfl, rfl, rfl⟩ := hcs
    simp only [Prod.mk.injEq] at hx
    simp only [if_true] at hz
    refine ⟨zs.take len, ⟨by rw [List.length_take]; omega, by omega, fun hn => ?_⟩, hl, .inr ⟨_, _, hx.1, ?_⟩⟩
    · obtain ⟨b, off, spot⟩ := x
      have h0 := hcell 0 (by omega)
      have hspot : spot = none := by simpa [Addr.add] using World.cell?_spot h0
      subst hspot
      have hb : b < W.heap.size := World.block_lt_of_cell? W _ h0
      refine ⟨b, off, rfl, hb, fun j hj => ?_⟩
      have hj' := hcell j (by omega)
      rw [add_plain] at hj'
      rw [hj', ix_take zs len j hj]
      rfl
    · simp only [lits, List.length_map, List.length_take, List.length_drop]
      omega

end Go.Proofs.Ytanghkleojjplaa
