import Derived.Test.YtbilddeepnnogaaGreatDoorPl
import Derived.Test.YtbilddeepnnogaaGreatDoorKi
import Derived.Test.YtbilddeepnnogaaGreatDoorJv
set_option linter.unusedVariables false
set_option linter.unusedSimpArgs false
/- The top: joined: what the walk of TopWide asks of Encode, Decode and New is so. -/
set_option linter.unusedVariables false
set_option maxRecDepth 100000
namespace Go.Proofs.YtbilddeepnnogaaGreatDoor
open Go.RowKit Go.Shelf

theorem encdec (l : List Op1) (x : Nat) (hl : FlatL l) (h1 : 1 ≤ x) (h2 : x ≤ 30) (hs : ∀ o ∈ l, o.op.size ≤ 100 ∧ o.out.size ≤ 100) : EncDec l x :=
  ⟨textB (modelFs l x), fun An Ai Ao cn ci co W hf hn => encode_w An Ai Ao cn ci co l x W hf hn hs, fun W hg => decode_w l x hl h1 h2 (fun o ho => ⟨hs o ho, by have := (hl.ops o ho).cases; omega⟩) W hg⟩
theorem newAll : NewAll := fun An Ai Ao Ap At cn ci co cp ct sz l x ds W h1 h2 h3 h4 h5 h6 => new_any ⟨#[]⟩ An Ai Ao Ap At cn ci co cp ct sz l x ds W h1 h2 h3 h4 h5 h6
theorem topWide_any (Ax Pk : Option Addr) (cx ck : Nat) (xs ps : List Int) (mk sz : Int) (w : World) (hg : Gl w) (hx : Nums w Ax xs) (hc : xs.length ≤ cx) (hxl : xs.length ≤ 140737488355328) (hxr : ∀ p ∈ xs, -9223372036854775808 ≤ p ∧ p ≤ 9223372036854775807)
    (hps : Nums w Pk ps) (hpl : ps.length ≤ 140737488355328) (hpr : ∀ p ∈ ps, -9223372036854775808 ≤ p ∧ p ≤ 9223372036854775807) (hm : -9223372036854775808 ≤ mk ∧ mk ≤ 9223372036854775807) (hz : -9223372036854775808 ≤ sz ∧ sz ≤ 9223372036854775807) :
    Calls Tryz.prog 3 #[.slice Ax xs.length cx, .agg #[.int .i64 mk, .int .i64 sz, .slice Pk ps.length ck]] w fun e w' => e = .returned (.bool true) ∧ Since w w' :=
  wide_of (fun n h1 h2 => encdec wideL n wideL_ok h1 h2 (fun o ho => by
    simp only [wideL, List.mem_cons, List.not_mem_nil, or_false] at ho
    rcases ho with rfl | rfl | rfl | rfl | rfl <;> exact ⟨by decide, by decide⟩)) (encdec addL 2 addL_ok (by omega) (by omega) (fun o ho => by
    simp only [addL, List.mem_cons, List.not_mem_nil, or_false] at ho
    subst ho
    exact ⟨by decide, by decide⟩)) newAll Ax Pk cx ck xs ps mk sz w hg hx hc hxl hxr hps hpl hpr hm hz
end Go.Proofs.YtbilddeepnnogaaGreatDoor
