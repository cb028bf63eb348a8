import Derived.Test.YtbilddeepnnogaaGreatDoorJbm
import Derived.Test.YtbilddeepnnogaaGreatDoorJu
import Derived.Test.YtbilddeepnnogaaGreatDoorHkm
import Derived.Test.YtbilddeepnnogaaGreatDoorPam
import Derived.Deep.Cut
set_option linter.unusedVariables false
set_option linter.unusedSimpArgs false
/- The top: pick, run. -/
section
set_option linter.unusedVariables false
set_option maxRecDepth 100000
namespace Go.Proofs.YtbilddeepnnogaaGreatDoor
open Go.RowKit Go.Shelf Go.Maps

set_option maxHeartbeats 1600000 in
theorem pick_any (c : Int) (n : Nat) (hn : 0 < n) (hn1 : n ≤ 1000) (hc1 : -9223372036854775808 ≤ c) (hc2 : c ≤ 9223372036854775807) :
    ∃ r : Nat, r < n ∧ ∀ w, Calls Tryz.prog 6 #[.int .i64 c, .int .i64 n] w fun e w' => e = .returned (.int .i64 r) ∧ w' = w := by
  have hni : ¬ (n : Int) = 0 := by omega
  have hni2 : (0 : Int) < n := by omega
  rcases Int.lt_or_le c 0 with h | h
  · have h2 : decide (c < 0) = true := decide_eq_true h
    obtain ⟨r, hr, he⟩ : ∃ r : Nat, r < n ∧ (-(c + 1)).tmod (n : Int) = (r : Int) := by
      have h0 : 0 ≤ -(c + 1) := by omega
      obtain ⟨r, h1, h3⟩ := mod_nat (-(c + 1)) n hn
      exact ⟨r, h1, by rw [Int.tmod_eq_emod_of_nonneg h0]; exact h3⟩
    have hw : IntKind.i64.wrap (c + 1) = c + 1 := by rw [IntKind.wrap_i64]; omega
    have hw2 : IntKind.i64.wrap (-(c + 1)) = -(c + 1) := by rw [IntKind.wrap_i64]; omega
    refine ⟨r, hr, fun w => ?_⟩
    go_enter Tryz.func6, Tryz.ntmps6
    go_wp2_with fail
    go_ret
    exact ⟨rfl, rfl⟩
  · have h2 : decide (c < 0) = false := decide_eq_false (by omega)
    obtain ⟨r, hr, he⟩ : ∃ r : Nat, r < n ∧ c.tmod (n : Int) = (r : Int) := by
      obtain ⟨r, h1, h3⟩ := mod_nat c n hn
      exact ⟨r, h1, by rw [Int.tmod_eq_emod_of_nonneg h]; exact h3⟩
    refine ⟨r, hr, fun w => ?_⟩
    go_enter Tryz.func6, Tryz.ntmps6
    go_wp2_with fail
    go_ret
    exact ⟨rfl, rfl⟩
set_option maxHeartbeats 6400000 in
theorem grun_of (s : ByteArray) (An Ai Ao At Pk : Option Addr) (cn ci co ct ck sz mask : Nat) (l : List Op1) (x : Nat) (ds ps : List Int) (w : World) (h : FlatG w An Ai Ao l x) (hnm : Nam w An l.length) (hps : Nums w Pk ps) (hpl : ps.length ≤ 140737488355328) (hpr : ∀ p ∈ ps, -9223372036854775808 ≤ p ∧ p ≤ 9223372036854775807)
    (hmask : mask ≤ 15) (hl : ds.length = x) (hsz : 1 ≤ sz) (hsz2 : sz ≤ 10) (hsm : ∀ d ∈ ds, Sm d) (hso : ∀ o ∈ l, ∀ d ∈ ds, Sm (opV o.op d)) (ht : Tns w At 1 x ds) (hmany : ∀ o ∈ l, Ops1 o.op → 1 < l.length)
    (hE : ∀ W, FlatG W An Ai Ao l x → Nam W An l.length → Calls Tryz.prog 9 #[.agg #[.string ⟨#[]⟩, .slice An l.length cn, .slice Ai 1 ci, .slice Ao l.length co, .slice none 0 0]] W fun e w' => e = .returned (.tuple #[.string s, .int .i64 0]) ∧ Since W w')
    (hD : ∀ W, Gl W → Calls Tryz.prog 23 #[.string s] W (PassIs ⟨#[]⟩ l x W))
    (hN : ∀ (An Ai Ao Ap : Option Addr) (cn ci co cp : Nat) (W : World), FlatG W An Ai Ao l x → PlcAt W Ap l x → l.length ≤ cp → Tns W At 1 x ds → Calls Tryz.prog 33 #[.agg #[.string ⟨#[]⟩, .slice An l.length cn, .slice Ai 1 ci, .slice Ao l.length co, .slice none 0 0], .agg #[.int .i64 (l.length * up8 (4 * x) : Nat), .slice Ap l.length cp, .slice none 0 0], .slice At 1 ct, .int .i64 sz] W (NewIs l x sz ds W)) :
    Calls Tryz.prog 5 #[.agg #[.string ⟨#[]⟩, .slice An l.length cn, .slice Ai 1 ci, .slice Ao l.length co, .slice none 0 0], .int .i64 mask, .slice At 1 ct, .int .i64 sz, .slice Pk ps.length ck] w fun e w' => ∃ v, e = .returned (.tuple #[v, .int .i64 0]) ∧ IsSlc repTn w' (fun k => w.heap.size ≤ k ∧ k < w'.heap.size) v (l.map (fun o => tnOf x (ds.map (opV o.op)))) ∧ Since w w' := by
  have hx1 : 1 ≤ x := by have := h.lo; omega
  have hfl := h.ok
  have H := Lib.hid h
  have HP := Lib.hid hps
  have HPR := Lib.hid hpr
  have HSM := Lib.hid hsm
  have HSO := Lib.hid hso
  have HT := Lib.hid ht
  have HMN := Lib.hid hmany
  have HE := Lib.hid hE
  have HNM := Lib.hid hnm
  have HD := Lib.hid hD
  have HN := Lib.hid hN
  have HFL := Lib.hid hfl
  clear h hps hpr hsm hso ht hmany hE hD hN hfl hnm
  go_enter Tryz.func5, Tryz.ntmps5
  go_wp2_with fail
  refine newX (F := fun W => Calls _ _ _ W _) ?_
  intro w1 h1
  have HX1 := Lib.hid h1
  clear h1
  refine (HE.out w1 (H.out.below HX1.out.below) (HNM.out.below HX1.out.below)).mono ?_
  rintro e w2 ⟨rfl, hs2⟩
  have HX2 := Lib.hid (HX1.out.all hs2)
  clear hs2
  go_wp2_with fail
  refine (load_of s mask hmask l x hx1 HFL.out w2 ((H.out.below HX2.out.below).gl) HMN.out HD.out).mono ?_
  rintro e w3 ⟨An3, Ai3, Ao3, Or3, Vs3, Ap3, n3, i3, o3, d1, d2, p3, rfl, hpl3, hb3⟩
  have HX3 := Lib.hid (HX2.out.all hb3)
  have HPL := Lib.hid hpl3
  clear hb3 hpl3
  obtain ⟨m, hm⟩ : ∃ m, m = l.length * up8 (4 * x) := ⟨_, rfl⟩
  rw [← hm]
  have HMM := Lib.hid hm
  clear hm
  go_wp2_with fail
  refine newX (F := fun W => Calls _ _ _ W _) ?_
  intro w4 h4
  have hs34 := h4.below
  have hsw4 : Since w w4 := Below.trans HX3.out.below (Below.mono hs34 HX3.out.below.size)
  have hR := run_of An3 Ai3 Ao3 Or3 Vs3 Ap3 At Pk n3 i3 o3 d1 d2 p3 ct ck sz l x ds ps w4 (HPL.out.below hs34) (HP.out.since hsw4) hpl HPR.out hl hsz hsz2 HSM.out HSO.out (HT.out.since hsw4) (fun W hW => HN.out An3 Ai3 Ao3 Ap3 n3 i3 o3 p3 W ((HPL.out.below hs34).below hW).fl ((HPL.out.below hs34).below hW).plc (HPL.out.cap) (HT.out.since (hsw4.trans hW)))
  rw [← HMM.out] at hR
  have HS4 := Lib.hid hsw4
  clear h4 hs34 hsw4
  refine hR.mono ?_
  rintro e w5 ⟨v, rfl, hi5, hs5⟩
  have HI5 := Lib.hid hi5
  have HS5 := Lib.hid hs5
  clear hi5 hs5 hR
  go_wp2_with fail
  go_ret2
  exact ⟨_, rfl, HI5.out.keep (fun _ _ => rfl) (fun k hk => ⟨Nat.le_trans HS4.out.size hk.1, hk.2⟩), HS4.out.trans HS5.out⟩
end Go.Proofs.YtbilddeepnnogaaGreatDoor
end
/- The top: the small graph. -/
section
set_option linter.unusedVariables false
set_option maxRecDepth 100000
namespace Go.Proofs.YtbilddeepnnogaaGreatDoor
open Go.RowKit Go.Shelf Go.Maps

/-- The node of add. -/
def addL : List Op1 := [⟨⟨#[65, 100, 100]⟩, ⟨#[122]⟩, 2⟩]
theorem addL_ok : FlatL addL := ⟨by decide, by decide, fun o ho => by
    simp only [addL, List.mem_cons, List.not_mem_nil, or_false] at ho
    subst ho
    exact .inr ⟨rfl, rfl⟩, fun o ho => by
    simp only [addL, List.mem_cons, List.not_mem_nil, or_false] at ho
    subst ho
    exact ⟨by kernel_rfl, fun h => absurd ((show (⟨#[122]⟩ : ByteArray).toList = [122] from by kernel_rfl).symm.trans h) (by decide)⟩, fun o ho => by
    simp only [addL, List.mem_cons, List.not_mem_nil, or_false] at ho
    subst ho
    decide, fun i j a b hi hj he => by
    have h1 := (List.getElem?_eq_some_iff.1 hi).1
    have h2 := (List.getElem?_eq_some_iff.1 hj).1
    simp [addL] at h1 h2
    omega⟩
set_option maxHeartbeats 3200000 in
theorem add7 (w : World) (hg : Gl w) : Calls Tryz.prog 7 #[] w fun e w' => ∃ An Ai Ao, e = .returned (.agg #[.string ⟨#[]⟩, .slice An 1 1, .slice Ai 1 1, .slice Ao 1 1, .slice none 0 0]) ∧ FlatG w' An Ai Ao addL 2 ∧ Nam w' An 1 ∧ Since w w' := by
  go_enter Tryz.func7, Tryz.ntmps7
  go_wp2_with fail
  refine newX6 (F := fun W => bodyPost _ _ _ _ _ W) ?_
  intro w1 hx
  have g0 := hx.b0 rfl
  obtain ⟨d0, -⟩ := cells1 (hx.b1 rfl)
  obtain ⟨i0, i1, i2, -⟩ := cells3 (hx.b2 rfl)
  obtain ⟨o0, o1, o2, -⟩ := cells3 (hx.b3 rfl)
  have x0 := cell_of_row _ _ 0 _ 9 (0, 0) (hx.b4 rfl)
  have x1 := cell_of_row _ _ 1 _ 9 (0, 0) (hx.b4 rfl)
  obtain ⟨n0, n1, n2, n3, n4, -⟩ := cells5 (hx.b5 rfl)
  have hz : w.heap.size + 6 ≤ w1.heap.size := by have := hx.size; simpa using this
  have hone : One w1 (some ⟨w.heap.size + 1, 0, none⟩) (2 : Nat) := ⟨_, _, rfl, by omega, d0⟩
  refine bodyPost_ret (results_cell_row rfl _ _ w.heap.size 33 _ (0, 0) _ rfl g0 Tryz.underlying33 rfl (by kernel_rfl)) rfl ?_
  refine ⟨_, _, _, rfl, ⟨addL_ok, hg.below hx.below, by decide, by decide, ⟨_, _, rfl, by omega, fun j o hj => ?_⟩, ⟨_, _, rfl, by omega, fun j s hj => ?_⟩, ⟨_, _, rfl, by omega, fun j s hj => ?_⟩⟩, ⟨_, _, rfl, by omega, fun j hj => ?_⟩, hx.below⟩
  · match j, hj with
    | 0, hj =>
      cases hj
      refine ⟨_, _, _, by simpa using n0, by simpa using n1, by simpa using n2, by simpa using n3, by simpa using n4, ⟨_, _, rfl, by omega, fun j hj => ?_⟩⟩
      have hj2 : j < 2 := hj
      rcases (show j = 0 ∨ j = 1 by omega) with rfl | rfl
      · simpa using x0
      · simpa using x1
    | j + 1, hj => simp [addL] at hj
  · match j, hj with
    | 0, hj =>
      cases hj
      exact ⟨_, _, by simpa using i0, by simpa using i1, by simpa using i2, hone⟩
    | j + 1, hj => simp at hj
  · match j, hj with
    | 0, hj =>
      cases hj
      exact ⟨_, _, by simpa using o0, by simpa using o1, by simpa using o2, hone⟩
    | j + 1, hj => simp [addL] at hj
  · obtain rfl : j = 0 := by omega
    simpa using n1
end Go.Proofs.YtbilddeepnnogaaGreatDoor
end
/- The top: the graph that must go all the way. -/
section
set_option linter.unusedVariables false
set_option maxRecDepth 100000
namespace Go.Proofs.YtbilddeepnnogaaGreatDoor
open Go.RowKit Go.Shelf Go.Maps

theorem IsSlc.nums {w : World} {Z : Nat → Prop} {v : Value} {es : List Int} (h : IsSlc repInt w Z v es) : ∃ A c, v = .slice A es.length c ∧ Nums w A es := by
  obtain ⟨A, n, c, rfl, hs, -⟩ := h
  have hl := hs.len
  subst hl
  refine ⟨A, c, rfl, fun j d hj => ?_⟩
  obtain ⟨b, off, rfl, -, hc⟩ := hs.at_ (Nat.lt_of_le_of_lt (Nat.zero_le _) (List.getElem?_eq_some_iff.1 hj).1)
  obtain ⟨cs, h1, h2⟩ := hc j d hj
  have h3 := h2 0 (by decide)
  rw [show cs = [.int .i64 d] from h1] at h3
  exact ⟨b, off, rfl, by simpa [repInt] using h3⟩
theorem IsSlc.tn {w : World} {Z : Nat → Prop} {v : Value} {L : List Tn} (h : IsSlc repTn w Z v L) (h0 : 0 < L.length) : ∃ b off c, v = .slice (some ⟨b, off, none⟩) L.length c ∧ ∀ (j : Nat) (x : Int) (es : List Int), L[j]? = some (tnOf x es) → ∃ Ad cd At ct, w.cell? ⟨b, off + j * 3, none⟩ = some (.int .i64 6) ∧ w.cell? ⟨b, off + j * 3 + 1, none⟩ = some (.slice Ad 1 cd) ∧ w.cell? ⟨b, off + j * 3 + 2, none⟩ = some (.slice At es.length ct) ∧ One w Ad x ∧ Nums w At es := by
  obtain ⟨A, n, c, rfl, hs, -⟩ := h
  have hl := hs.len
  subst hl
  obtain ⟨b, off, rfl, -, hc⟩ := hs.at_ h0
  refine ⟨b, off, c, rfl, fun j x es hj => ?_⟩
  obtain ⟨cs, ⟨d, e, rfl, h1, h2⟩, h3⟩ := hc j _ hj
  obtain ⟨Ad, cd, rfl, n1⟩ := h1.nums
  obtain ⟨At, ct, rfl, n2⟩ := h2.nums
  obtain ⟨bd, od, rfl, q⟩ := n1 0 x rfl
  exact ⟨_, cd, At, ct, h3 0 (by decide), h3 1 (by decide), h3 2 (by decide), ⟨bd, od, rfl, World.block_lt_of_cell? w _ q, by simpa using q⟩, n2⟩
/-- What is told of a graph is read as the graph. -/
def EncDec (l : List Op1) (x : Nat) : Prop := ∃ s : ByteArray, (∀ (An Ai Ao : Option Addr) (cn ci co : Nat) (W : World), FlatG W An Ai Ao l x → Nam W An l.length → Calls Tryz.prog 9 #[.agg #[.string ⟨#[]⟩, .slice An l.length cn, .slice Ai 1 ci, .slice Ao l.length co, .slice none 0 0]] W fun e w' => e = .returned (.tuple #[.string s, .int .i64 0]) ∧ Since W w') ∧ ∀ W, Gl W → Calls Tryz.prog 23 #[.string s] W (PassIs ⟨#[]⟩ l x W)
/-- Machines are made. -/
def NewAll : Prop := ∀ (An Ai Ao Ap At : Option Addr) (cn ci co cp ct sz : Nat) (l : List Op1) (x : Nat) (ds : List Int) (W : World), FlatG W An Ai Ao l x → PlcAt W Ap l x → l.length ≤ cp → Tns W At 1 x ds → 1 ≤ sz → sz ≤ 10 → Calls Tryz.prog 33 #[.agg #[.string ⟨#[]⟩, .slice An l.length cn, .slice Ai 1 ci, .slice Ao l.length co, .slice none 0 0], .agg #[.int .i64 (l.length * up8 (4 * x) : Nat), .slice Ap l.length cp, .slice none 0 0], .slice At 1 ct, .int .i64 sz] W (NewIs l x sz ds W)
set_option maxHeartbeats 6400000 in
theorem works_of (hE : EncDec addL 2) (hN : NewAll) (w : World) (hg : Gl w) : Calls Tryz.prog 4 #[] w fun e w' => e = .returned (.bool true) ∧ Since w w' := by
  obtain ⟨s, hE, hD⟩ := hE
  have HE := Lib.hid hE
  have HD := Lib.hid hD
  have HN := Lib.hid hN
  have HG := Lib.hid hg
  clear hE hD hN hg
  go_enter Tryz.func4, Tryz.ntmps4
  go_wp2_with fail
  refine (add7 w HG.out).mono ?_
  rintro e w1 ⟨An, Ai, Ao, rfl, hf, hnm, hs1⟩
  have HF := Lib.hid hf
  have HNM := Lib.hid hnm
  have HS1 := Lib.hid hs1
  clear hf hs1 hnm
  go_wp2_with fail
  refine newX4 (F := fun W => Calls _ _ _ W _) ?_
  intro w2 h2
  obtain ⟨d0, -⟩ := cells1 (h2.b0 rfl)
  have e0 := cell_of_row _ _ 0 _ 2 (0, 0) (h2.b1 rfl)
  have e1 := cell_of_row _ _ 1 _ 2 (0, 0) (h2.b1 rfl)
  obtain ⟨t0, t1, t2, -⟩ := cells3 (h2.b2 rfl)
  obtain ⟨p0, -⟩ := cells1 (h2.b3 rfl)
  have z2 : w1.heap.size + 4 ≤ w2.heap.size := by have := h2.size; simpa using this
  have hnums : Nums w2 (some ⟨w1.heap.size + 1, 0, none⟩) [3, -4] := fun j d hj => by
    match j, hj with
    | 0, hj => cases hj; exact ⟨_, _, rfl, by simpa using e0⟩
    | 1, hj => cases hj; exact ⟨_, _, rfl, by simpa using e1⟩
    | j + 2, hj => simp at hj
  have hps : Nums w2 (some ⟨w1.heap.size + 1 + 1 + 1, 0, none⟩) [1] := fun j d hj => by
    match j, hj with
    | 0, hj => cases hj; exact ⟨_, _, rfl, by simpa using p0⟩
    | j + 1, hj => simp at hj
  have hsm : ∀ d ∈ ([3, -4] : List Int), Sm d := fun d hd => by
    simp only [List.mem_cons, List.not_mem_nil, or_false] at hd
    rcases hd with rfl | rfl <;> exact ⟨by omega, by omega⟩
  have hso : ∀ o ∈ addL, ∀ d ∈ ([3, -4] : List Int), Sm (opV o.op d) := fun o ho d hd => by
    simp only [addL, List.mem_cons, List.not_mem_nil, or_false] at ho hd
    subst ho
    rw [opV_add]
    rcases hd with rfl | rfl <;> exact ⟨by omega, by omega⟩
  have htn : Tns w2 (some ⟨w1.heap.size + 1 + 1, 0, none⟩) 1 2 [3, -4] := ⟨_, _, rfl, by omega, fun j hj => by
    obtain rfl : j = 0 := by omega
    exact ⟨_, _, _, _, by simpa using t0, by simpa using t1, by simpa using t2, ⟨rfl, by omega, by omega, ⟨_, _, rfl, by omega, d0⟩, hnums, hsm⟩⟩⟩
  have hmany : ∀ o ∈ addL, Ops1 o.op → 1 < addL.length := fun o ho hop => by
    simp only [addL, List.mem_cons, List.not_mem_nil, or_false] at ho
    subst ho
    rcases hop with h | h | h <;> exact absurd h (by decide)
  have hpr : ∀ p ∈ ([1] : List Int), -9223372036854775808 ≤ p ∧ p ≤ 9223372036854775807 := fun p hp => by
    simp only [List.mem_cons, List.not_mem_nil, or_false] at hp
    subst hp
    exact ⟨by omega, by omega⟩
  have hR : Calls Tryz.prog 5 #[.agg #[.string ⟨#[]⟩, .slice An 1 1, .slice Ai 1 1, .slice Ao 1 1, .slice none 0 0], .int .i64 15, .slice (some ⟨w1.heap.size + 1 + 1, 0, none⟩) 1 1, .int .i64 1, .slice (some ⟨w1.heap.size + 1 + 1 + 1, 0, none⟩) 1 1] w2 fun e w' => ∃ v, e = .returned (.tuple #[v, .int .i64 0]) ∧ IsSlc repTn w' (fun k => w2.heap.size ≤ k ∧ k < w'.heap.size) v [tnOf 2 [6, -8]] ∧ Since w2 w' :=
    grun_of s An Ai Ao (some ⟨w1.heap.size + 1 + 1, 0, none⟩) (some ⟨w1.heap.size + 1 + 1 + 1, 0, none⟩) 1 1 1 1 1 1 15 addL 2 [3, -4] [1] w2 (HF.out.below h2.below) (HNM.out.below h2.below) hps (by decide) hpr (by omega) rfl (by omega) (by omega) hsm hso htn hmany (fun W hW hW2 => HE.out An Ai Ao 1 1 1 W hW hW2) HD.out (fun An Ai Ao Ap cn ci co cp W q1 q2 q3 q4 => HN.out An Ai Ao Ap _ cn ci co cp 1 1 addL 2 [3, -4] W q1 q2 q3 q4 (by omega) (by omega))
  have HS2 := Lib.hid (HS1.out.trans h2.below)
  clear h2 d0 e0 e1 t0 t1 t2 p0 hnums hps hsm hso htn hmany hpr
  refine hR.mono ?_
  rintro e w3 ⟨v, rfl, hi, hs3⟩
  obtain ⟨b, off, c, rfl, hc⟩ := hi.tn (by decide)
  obtain ⟨Ad, cd, At, ct, q0, q1, q2, q3, q4⟩ := hc 0 _ _ rfl
  have HS3 := Lib.hid (HS2.out.trans hs3)
  have HT := Lib.hid (show T1 w3 (some ⟨b, off, none⟩) 2 [6, -8] from ⟨b, off, Ad, cd, At, ct, rfl, by simpa using q0, by simpa using q1, by simpa using q2, q3, q4⟩)
  clear hi hc q0 q1 q2 q3 q4 hs3 hR
  go_wp2_with fail
  refine newX3 (F := fun W => Calls _ _ _ W _) ?_
  intro w4 h4
  obtain ⟨d0, -⟩ := cells1 (h4.b0 rfl)
  have e0 := cell_of_row _ _ 0 _ 2 (0, 0) (h4.b1 rfl)
  have e1 := cell_of_row _ _ 1 _ 2 (0, 0) (h4.b1 rfl)
  obtain ⟨t0, t1, t2, -⟩ := cells3 (h4.b2 rfl)
  have z4 : w3.heap.size + 3 ≤ w4.heap.size := by have := h4.size; simpa using this
  have hB : T1 w4 (some ⟨w3.heap.size + 1 + 1, 0, none⟩) 2 [6, -8] := ⟨_, _, _, _, _, _, rfl, by simpa using t0, by simpa using t1, by simpa using t2, ⟨_, _, rfl, by omega, d0⟩, fun j d hj => by
    match j, hj with
    | 0, hj => cases hj; exact ⟨_, _, rfl, by simpa using e0⟩
    | 1, hj => cases hj; exact ⟨_, _, rfl, by simpa using e1⟩
    | j + 2, hj => simp at hj⟩
  have hA : T1 w4 (some ⟨b, off, none⟩) 2 [6, -8] := by
    obtain ⟨b', off', Ad, cd, At, ct, e, q0, q1, q2, q3, q4⟩ := HT.out
    cases e
    have hlt := World.block_lt_of_cell? w3 _ q0
    exact ⟨b, off, Ad, cd, At, ct, rfl, (h4.below.cell (p := ⟨b, off, none⟩) hlt).trans q0, (h4.below.cell (p := ⟨b, off + 1, none⟩) hlt).trans q1, (h4.below.cell (p := ⟨b, off + 2, none⟩) hlt).trans q2, q3.below h4.below, q4.since h4.below⟩
  have hS := same8 (some ⟨b, off, none⟩) (some ⟨w3.heap.size + 1 + 1, 0, none⟩) c 1 2 [6, -8] w4 hA hB rfl (by omega)
  have HS4 := Lib.hid (HS3.out.trans h4.below)
  clear h4 d0 e0 e1 t0 t1 t2 hA hB
  refine hS.mono ?_
  rintro e w5 ⟨rfl, hs5⟩
  have HS5 := Lib.hid hs5
  clear hs5 hS
  go_wp2_with fail
  go_ret
  exact ⟨rfl, HS4.out.trans HS5.out⟩
end Go.Proofs.YtbilddeepnnogaaGreatDoor
end
/- The top: nodes that hang on nothing of one another. -/
section
set_option linter.unusedVariables false
set_option maxRecDepth 100000
namespace Go.Proofs.YtbilddeepnnogaaGreatDoor
open Go.RowKit Go.Shelf Go.Maps

/-- The five nodes. -/
def wideL : List Op1 := [⟨⟨#[78, 101, 103]⟩, ⟨#[97]⟩, 1⟩, ⟨⟨#[65, 98, 115]⟩, ⟨#[98]⟩, 1⟩, ⟨⟨#[73, 100, 101, 110, 116, 105, 116, 121]⟩, ⟨#[99]⟩, 1⟩, ⟨⟨#[78, 101, 103]⟩, ⟨#[100]⟩, 1⟩, ⟨⟨#[65, 98, 115]⟩, ⟨#[101]⟩, 1⟩]
theorem wideL_m {k : Nat} {o : Op1} (h : wideL[k]? = some o) : o.m = 1 := by
  match k, h with
  | 0, h => cases h; rfl
  | 1, h => cases h; rfl
  | 2, h => cases h; rfl
  | 3, h => cases h; rfl
  | 4, h => cases h; rfl
theorem wideL_ok : FlatL wideL := by
  refine ⟨by decide, by decide, fun o ho => ?_, fun o ho => ?_, fun o ho => ?_, fun i j a b ha hb e => ?_⟩
  · simp only [wideL, List.mem_cons, List.not_mem_nil, or_false] at ho
    rcases ho with rfl | rfl | rfl | rfl | rfl
    · exact .inl ⟨.inl rfl, rfl⟩
    · exact .inl ⟨.inr (.inl rfl), rfl⟩
    · exact .inl ⟨.inr (.inr rfl), rfl⟩
    · exact .inl ⟨.inl rfl, rfl⟩
    · exact .inl ⟨.inr (.inl rfl), rfl⟩
  · simp only [wideL, List.mem_cons, List.not_mem_nil, or_false] at ho
    rcases ho with rfl | rfl | rfl | rfl | rfl
    · exact ⟨by kernel_rfl, fun h => absurd ((show (⟨#[97]⟩ : ByteArray).toList = [97] from by kernel_rfl).symm.trans h) (by decide)⟩
    · exact ⟨by kernel_rfl, fun h => absurd ((show (⟨#[98]⟩ : ByteArray).toList = [98] from by kernel_rfl).symm.trans h) (by decide)⟩
    · exact ⟨by kernel_rfl, fun h => absurd ((show (⟨#[99]⟩ : ByteArray).toList = [99] from by kernel_rfl).symm.trans h) (by decide)⟩
    · exact ⟨by kernel_rfl, fun h => absurd ((show (⟨#[100]⟩ : ByteArray).toList = [100] from by kernel_rfl).symm.trans h) (by decide)⟩
    · exact ⟨by kernel_rfl, fun h => absurd ((show (⟨#[101]⟩ : ByteArray).toList = [101] from by kernel_rfl).symm.trans h) (by decide)⟩
  · simp only [wideL, List.mem_cons, List.not_mem_nil, or_false] at ho
    rcases ho with rfl | rfl | rfl | rfl | rfl <;> decide
  · have hi : i < 5 := (List.getElem?_eq_some_iff.1 ha).1
    have hj : j < 5 := (List.getElem?_eq_some_iff.1 hb).1
    have key : ∀ i : Fin 5, ∀ j : Fin 5, (wideL[i.1]?.map (·.out)) = (wideL[j.1]?.map (·.out)) → i = j := by decide
    have := key ⟨i, hi⟩ ⟨j, hj⟩ (by rw [ha, hb]; exact congrArg some e)
    exact congrArg Fin.val this
/-- An output as it is laid. -/
def rawO (bd : Nat) (o : Op1) : List Value := [.string o.out, .int .i64 6, .slice (some ⟨bd, 0, none⟩) 1 1]
/-- A node without a name. -/
def repN0 : Rep Op1 where
  sz := 5
  R := fun w Z cs o => ∃ b off c, cs = [.string o.op, .string ⟨#[]⟩, .slice (some ⟨b, off, none⟩) o.m c, .string o.out, .slice none 0 0] ∧ Z b ∧ b < w.heap.size ∧ ∀ j, j < o.m → w.cell? ⟨b, off + j, none⟩ = some (.string ⟨#[120]⟩)
  len := by rintro _ _ _ _ ⟨b, off, c, rfl, _⟩; rfl
  one := by
    rintro _ _ _ _ ⟨b, off, c, rfl, _⟩ u hu
    simp at hu
    rcases hu with rfl | rfl | rfl | rfl | rfl <;> rfl
  keep := by
    rintro w w' Z Z' _ _ ⟨b, off, c, rfl, h0, h1, h2⟩ hk hZ
    refine ⟨b, off, c, rfl, hZ b h0, ?_, fun j hj => (hk.cell (a := ⟨b, off + j, none⟩) h0).trans (h2 j hj)⟩
    have e := hk b h0
    rw [Array.getElem?_eq_getElem h1] at e
    exact (Array.getElem?_eq_some_iff.1 e).1
theorem nd0_of {w : World} {Z : Nat → Prop} {v : Value} {l : List Op1} (h : IsSlc repN0 w Z v l) (hl : 0 < l.length) (hZ : ∀ k, Z k → k < w.heap.size) : ∃ A c, v = .slice A l.length c ∧ NdAt w A l ∧ Nam w A l.length := by
  obtain ⟨A, n, c, rfl, hs, _⟩ := h
  have hn := hs.len
  subst hn
  obtain ⟨b, off, rfl, hb, hc⟩ := hs.at_ hl
  refine ⟨_, c, rfl, ⟨b, off, rfl, hZ b hb, fun j o hj => ?_⟩, b, off, rfl, hZ b hb, fun j hj => ?_⟩
  · obtain ⟨cs, ⟨b2, off2, c2, rfl, q0, q1, q2⟩, hi⟩ := hc j o hj
    exact ⟨_, _, c2, by have := hi 0 (by decide); simpa [repN0] using this, by have := hi 1 (by decide); simpa [repN0] using this, by have := hi 2 (by decide); simpa [repN0] using this, by have := hi 3 (by decide); simpa [repN0] using this, by have := hi 4 (by decide); simpa [repN0] using this, b2, off2, rfl, q1, q2⟩
  · obtain ⟨cs, ⟨b2, off2, c2, rfl, q0, q1, q2⟩, hi⟩ := hc j _ (List.getElem?_eq_getElem hj)
    have := hi 1 (by decide)
    simpa [repN0] using this
/-- The graph under way. -/
structure WdSt (W0 wr : World) (lab : Nat → Nat) (bg bi bd k j : Nat) (vn vo : Value) : Prop where
  only : Only bg W0 wr
  row : wr.heap[bg]? = some (.cells #[.string ⟨#[]⟩, vn, .slice (some ⟨bi, 0, none⟩) 1 1, vo, .slice none 0 0] 33 (0, 0))
  on : OL repN0 37 lab 1 wr W0.heap.size vn (wideL.take k)
  oo : OL (repRaw 3) 28 lab 2 wr W0.heap.size vo ((wideL.take j).map (rawO bd))
  fresh : Fresh lab wr
  lo : ∀ i, i < W0.heap.size → lab i = 0
section
variable {W0 wr w w' : World} {lab lab' : Nat → Nat} {bg bi bd k j : Nat} {vn vo v' : Value} {o : Op1}
theorem WdSt.since (h : WdSt W0 wr lab bg bi bd k j vn vo) (hs : Since wr w) : WdSt W0 w lab bg bi bd k j vn vo :=
  ⟨h.only.trans (only_of_since bg hs), hs.kp h.row, h.on.below hs, h.oo.below hs, h.fresh.more hs.size, h.lo⟩
theorem WdSt.putN (h : WdSt W0 w lab bg bi bd k j vn vo) (hbg : bg < W0.heap.size) (ho : wideL[k]? = some o) (h1 : OL repN0 37 lab' 1 w' W0.heap.size v' (wideL.take k ++ [o])) (h2 : Grew lab lab' 1 w w') : w'.heap[bg]? = w.heap[bg]? ∧ WdSt W0 (w'.setCell ⟨bg, 1, none⟩ v') lab' bg bi bd (k + 1) j v' vo := by
  have hlt : bg < w.heap.size := (Array.getElem?_eq_some_iff.1 h.row).1
  have hr := h2.keep bg hlt (by rw [h.lo bg hbg]; decide)
  have hz : (w'.setCell ⟨bg, 1, none⟩ v').heap.size = w'.heap.size := by simp [World.setCell]
  refine ⟨hr, (h2.only h.only (fun i hi => by rw [h.lo i hi]; decide)).set_ _ _, by simpa using heap_setCell_same w' bg 1 _ 33 v' (hr.trans h.row), ?_, (h.oo.other h2 (by decide) (by decide)).set_far hbg _, fun i hi => h2.fresh i (by rw [hz] at hi; exact hi), fun i hi => (h2.lab i (Nat.lt_of_lt_of_le hi h.only.size)).trans (h.lo i hi)⟩
  rw [List.take_add_one, ho]
  exact h1.set_far hbg _
theorem WdSt.putO (h : WdSt W0 w lab bg bi bd k j vn vo) (hbg : bg < W0.heap.size) (ho : wideL[j]? = some o) (h1 : OL (repRaw 3) 28 lab' 2 w' W0.heap.size v' ((wideL.take j).map (rawO bd) ++ [rawO bd o])) (h2 : Grew lab lab' 2 w w') : w'.heap[bg]? = w.heap[bg]? ∧ WdSt W0 (w'.setCell ⟨bg, 3, none⟩ v') lab' bg bi bd k (j + 1) vn v' := by
  have hlt : bg < w.heap.size := (Array.getElem?_eq_some_iff.1 h.row).1
  have hr := h2.keep bg hlt (by rw [h.lo bg hbg]; decide)
  have hz : (w'.setCell ⟨bg, 3, none⟩ v').heap.size = w'.heap.size := by simp [World.setCell]
  refine ⟨hr, (h2.only h.only (fun i hi => by rw [h.lo i hi]; decide)).set_ _ _, by simpa using heap_setCell_same w' bg 3 _ 33 v' (hr.trans h.row), (h.on.other h2 (by decide) (by decide)).set_far hbg _, ?_, fun i hi => h2.fresh i (by rw [hz] at hi; exact hi), fun i hi => (h2.lab i (Nat.lt_of_lt_of_le hi h.only.size)).trans (h.lo i hi)⟩
  rw [List.take_add_one, ho, Option.toList_some, List.map_append]
  exact h1.set_far hbg _
end
theorem newX5 {F : World → Prop} {w : World} {a b c d e : Obj} (h : ∀ w', Fx w w' [some a, some b, some c, some d, some e] → F w') : F (((((w.alloc a).alloc b).alloc c).alloc d).alloc e) := h _ (fx5 w a b c d e)
theorem wide_ops {k : Nat} {o : Op1} (h : wideL[k]? = some o) : (#[Value.string ⟨#[78, 101, 103]⟩, .string ⟨#[65, 98, 115]⟩, .string ⟨#[73, 100, 101, 110, 116, 105, 116, 121]⟩, .string ⟨#[78, 101, 103]⟩, .string ⟨#[65, 98, 115]⟩] : Array Value)[k]? = some (.string o.op) ∧ (#[Value.string ⟨#[97]⟩, .string ⟨#[98]⟩, .string ⟨#[99]⟩, .string ⟨#[100]⟩, .string ⟨#[101]⟩] : Array Value)[k]? = some (.string o.out) := by
  match k, h with
  | 0, h => cases h; exact ⟨rfl, rfl⟩
  | 1, h => cases h; exact ⟨rfl, rfl⟩
  | 2, h => cases h; exact ⟨rfl, rfl⟩
  | 3, h => cases h; exact ⟨rfl, rfl⟩
  | 4, h => cases h; exact ⟨rfl, rfl⟩
/-- The graph, whole. -/
theorem WdSt.flat {W0 wr : World} {lab : Nat → Nat} {bg bi bd : Nat} {vn vo : Value} (h : WdSt W0 wr lab bg bi bd 5 5 vn vo) (n : Nat) (hn1 : 1 ≤ n) (hn2 : n ≤ 30) (hg : Gl wr) (hi : VlAt wr (some ⟨bi, 0, none⟩) [⟨#[120]⟩] n) (hd : One wr (some ⟨bd, 0, none⟩) n) : ∃ An cn Ao co, vn = .slice An 5 cn ∧ vo = .slice Ao 5 co ∧ FlatG wr An (some ⟨bi, 0, none⟩) Ao wideL n ∧ Nam wr An 5 := by
  have h1 := h.on
  have h2 := h.oo
  rw [show wideL.take 5 = wideL from rfl] at h1 h2
  obtain ⟨An, cn, rfl, hN, hM⟩ := nd0_of (h1.isSlc (by decide)) (by decide) (fun k hk => hk.2)
  obtain ⟨bo, co, e, _, hlt, hc⟩ := h2.own.raw (by decide) (by rw [List.length_map]; decide)
  refine ⟨An, cn, _, co, rfl, e, ⟨wideL_ok, hg, by omega, by omega, hN, hi, bo, 0, rfl, hlt, fun j s hj => ?_⟩, hM⟩
  rw [List.getElem?_map] at hj
  cases hw : wideL[j]? with
  | none => rw [hw] at hj; cases hj
  | some o =>
    rw [hw] at hj
    cases hj
    have hr : (wideL.map (rawO bd))[j]? = some (rawO bd o) := by rw [List.getElem?_map, hw]; rfl
    exact ⟨some ⟨bd, 0, none⟩, 1, by simpa [rawO] using hc j _ hr 0 (by decide), by simpa [rawO] using hc j _ hr 1 (by decide), by simpa [rawO] using hc j _ hr 2 (by decide), hd⟩
end Go.Proofs.YtbilddeepnnogaaGreatDoor
end
