/- The walks: Same on fields. -/
import Derived.Test.YtpnieegaemfffaaWl
import Derived.Deep.QuietTactic
import Derived.BigQuiet
namespace Go.Proofs.Ytpnieegaemfffaa
open Go.RowKit

def Dn (w w' : World) : Prop := ∃ q, w' = w.drewN q
theorem Dn.below {B : Nat} {a w w' : World} (h : Dn w w') (hb : Below B a w) : Below B a w' := by
  obtain ⟨q, rfl⟩ := h; exact below_drewN hb q

set_option maxHeartbeats 800000 in
theorem same_yes (w : World) (B B' : Nat) (A A' : Option Addr) (n c n' c' : Nat) (l : List Fd) (h : Flds w B A n l) (g : Flds w B' A' n' l) :
    Calls Try.prog 15 #[.slice A n c, .slice A' n' c'] w fun e w' => e = .returned (.bool true) ∧ Dn w w' := by
  have hm : n ≤ 9223372036854775807 := h.small
  have Hl := Lib.hid h.len
  obtain rfl : n = n' := h.len.symm.trans g.len
  go_enter Try.func15, Try.ntmps15
  go_wp2_with fail
  go_loopw [5] (fun i wr => ∃ k : Nat, k ≤ n ∧ i = .int .i64 k ∧ ∃ q, wr = w.drewN q) (fun i _ => n - (intOf i).toNat)
  case atStart => exact ⟨0, Nat.zero_le _, rfl, 0, rfl⟩
  case round =>
    obtain ⟨k, hk, rfl, q, rfl⟩ := hrel
    by_cases hlt : k < n
    · obtain ⟨b1, off1, rfl, hb1, hc1⟩ := h.at_ (by omega)
      obtain ⟨b2, off2, rfl, hb2, hc2⟩ := g.at_ (by omega)
      obtain ⟨f, hf⟩ : ∃ f, l[k]? = some f := ⟨_, List.getElem?_eq_getElem (by rw [Hl.out]; exact hlt)⟩
      obtain ⟨x0, x1, x2, x3⟩ := hc1 k f hf
      obtain ⟨y0, y1, y2, y3⟩ := hc2 k f hf
      rw [Nat.mul_comm 4 k] at x0 x1 x2 x3 y0 y1 y2 y3
      clear hc1 hc2 hf
      go_wp2
      go_quiet (fail)
      go_wp2
      go_roundw
      case rel => exact ⟨k + 1, by omega, by go_num, _, rfl⟩
      case measure => simp [intOf]; omega
    · go_wp2
      go_ret
      exact ⟨rfl, q, rfl⟩
end Go.Proofs.Ytpnieegaemfffaa
