/- The small graph: plain. -/
import Derived.Test.YtkcnpnnflbibiaaEh
import Derived.KernelRfl
set_option linter.unusedVariables false
namespace Go.Proofs.Ytkcnpnnflbibiaa
open Go.RowKit

def smallG : Gr := ⟨⟨#[103]⟩, [⟨⟨#[82, 101, 108, 117]⟩, ⟨#[]⟩, [⟨#[120]⟩], ⟨#[121]⟩, []⟩], [⟨⟨#[120]⟩, 1, [2]⟩], [⟨⟨#[121]⟩, 1, [2]⟩], []⟩
def smallS : ByteArray := ⟨#[8, 8, 58, 53, 10, 14, 10, 1, 120, 18, 1, 121, 26, 0, 34, 4, 82, 101, 108, 117, 18, 1, 103, 90, 15, 10, 1, 120, 18, 10, 10, 8, 8, 1, 18, 4, 10, 2, 8, 2, 98, 15, 10, 1, 121, 18, 10, 10, 8, 8, 1, 18, 4, 10, 2, 8, 2, 66, 2, 16, 13]⟩
set_option maxRecDepth 100000 in
theorem told_small : toldB smallG = true := by kernel_rfl
set_option maxRecDepth 100000 in
theorem enc_small : encodeE smallG = .ok smallS := by kernel_rfl
set_option maxRecDepth 100000 in
theorem dec_small : decodeE smallS = .ok smallG := by kernel_rfl
set_option maxRecDepth 100000 in
theorem dec_h : decodeE ⟨#[58, 0]⟩ = .ok gNone := by kernel_rfl
set_option maxRecDepth 100000 in
theorem dec_j : decodeE ⟨#[56, 1]⟩ = .error 3 := by kernel_rfl
set_option maxRecDepth 100000 in
theorem dec_k : decodeE ⟨#[]⟩ = .error 4 := by kernel_rfl
end Go.Proofs.Ytkcnpnnflbibiaa
