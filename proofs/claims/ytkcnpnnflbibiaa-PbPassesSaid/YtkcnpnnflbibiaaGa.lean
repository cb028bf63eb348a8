/- A field that no table knows: plain; and the law. -/
import Derived.Test.YtkcnpnnflbibiaaFh
set_option linter.unusedVariables false
namespace Go.Proofs.Ytkcnpnnflbibiaa
open Go.RowKit

theorem fldsE_some {s : ByteArray} {l : List Fd} (h : fieldsS s 0 = some l) (hs : s.size ≤ 16777216) : fldsE s = .ok l := by
  unfold fldsE
  rw [if_neg (by omega), h]
theorem step_far (a : ByteArray × Bool × Unit) (f : Fd) (h : f.num ≠ 7) : jStep noStep 7 a f = .ok a := by
  unfold jStep
  rw [if_neg h]
  rfl
theorem pass_front {f : Fd} (h : f.num ≠ 7) (l : List Fd) (a : ByteArray × Bool × Unit) : runF (jStep noStep 7) a (f :: l) = runF (jStep noStep 7) a l := by
  simp only [runF, step_far a f h]
theorem pass_back {f : Fd} (h : f.num ≠ 7) (l : List Fd) (a : ByteArray × Bool × Unit) : runF (jStep noStep 7) a (l ++ [f]) = runF (jStep noStep 7) a l := by
  rw [runF_append]
  cases runF (jStep noStep 7) a l with
  | error e => rfl
  | ok b => simp only [runF, step_far b f h]
theorem decode_join {s t : ByteArray} {l m : List Fd} (hs : fldsE s = .ok l) (ht : fldsE t = .ok m) (h : runF (jStep noStep 7) (⟨#[]⟩, false, ()) m = runF (jStep noStep 7) (⟨#[]⟩, false, ()) l) : decodeE t = decodeE s := by
  unfold decodeE joinE
  rw [hs, ht]
  simp only []
  rw [h]
theorem passes_plain {s : ByteArray} {l : List Fd} {f : Fd} (hs : fldsE s = .ok l) (hg : AllGood [f]) (ho : FdOk f) (hn : f.num ≠ 7) (hz : s.size + (textB [f]).size ≤ 16777216) : decodeE (textB [f] ++ s) = decodeE s ∧ decodeE (s ++ textB [f]) = decodeE s := by
  have h1 := (fldsE_ok hs).1
  have h2 := fields_text [f] hg (fun g hg => by simp only [List.mem_singleton] at hg; subst hg; exact ho)
  refine ⟨decode_join hs (fldsE_some (fields_joined h2 h1) (by rw [size_app]; omega)) (pass_front hn l _), decode_join hs (fldsE_some (fields_joined h1 h2) (by rw [size_app]; omega)) (pass_back hn l _)⟩
theorem flds_one {w : World} {g : Nat} {f : Fd} (h : w.heap[g]? = some (.cells #[.int .i64 f.num, .int .i64 f.kind, .int .u64 f.u, .string f.b] 24 (0, 0))) : Flds w (g + 1) (some ⟨g, 0, none⟩) 1 [f] := by
  obtain ⟨⟨c0, c1, c2, c3⟩, _⟩ := blk4 h
  refine ⟨rfl, by unfold maxLen; omega, fun _ => ⟨g, 0, rfl, by omega, fun j x hj => ?_⟩⟩
  match j, hj with
  | 0, hj => simp at hj; subst hj; exact ⟨c0, c1, c2, c3⟩
  | j + 1, hj => simp at hj
set_option maxRecDepth 100000 in
set_option maxHeartbeats 3200000 in
theorem passes_law (s : ByteArray) (num kind u : Int) (b : ByteArray) (behind : Bool) (w : World) (hs : s.size ≤ 140737488351232) (hf : FdOk ⟨num, kind, u, b⟩) :
    Calls Try.prog 3 #[.string s, .agg #[.int .i64 num, .int .i64 kind, .int .u64 u, .string b], .bool behind] w (BolB true w) := by
  have hb0 : Below w.heap.size w (w.alloc (.cells #[.int .i64 (100 + num.tmod 1000), .int .i64 kind, .int .u64 u, .string b] 24)) := (Below.refl _ _).alloc (Nat.le_refl _) _
  have hg0 := heap_alloc_new w (.cells #[.int .i64 (100 + num.tmod 1000), .int .i64 kind, .int .u64 u, .string b] 24)
  have n0 := hf.n0
  have n1 := hf.n1
  dsimp only at n0 n1
  have m0 : -1000 < num.tmod 1000 ∧ num.tmod 1000 < 1000 := by
    have h1 : (num.tmod 1000).natAbs < 1000 := by rw [Int.natAbs_tmod]; exact Nat.mod_lt _ (by decide)
    omega
  obtain ⟨m1, m2⟩ := m0
  have hf1 : FdOk ⟨100 + num.tmod 1000, kind, u, b⟩ := ⟨by dsimp only; omega, by dsimp only; omega, hf.k0, hf.k1, hf.u0, hf.u1, hf.b⟩
  have HB0 := Lib.hid hb0
  have HG0 := Lib.hid hg0
  have HF1 := Lib.hid hf1
  have HL := Lib.hid live_any
  have hbz := hf.b
  dsimp only at hbz
  have x0 : (w.alloc (.cells #[.int .i64 (100 + num.tmod 1000), .int .i64 kind, .int .u64 u, .string b] 24)).cell? ⟨w.heap.size, 0, none⟩ = some (.int .i64 (100 + num.tmod 1000)) := cell_of_row _ _ 0 _ 24 (0, 0) hg0
  have x1 : (w.alloc (.cells #[.int .i64 (100 + num.tmod 1000), .int .i64 kind, .int .u64 u, .string b] 24)).cell? ⟨w.heap.size, 1, none⟩ = some (.int .i64 kind) := cell_of_row _ _ 1 _ 24 (0, 0) hg0
  have x2 : (w.alloc (.cells #[.int .i64 (100 + num.tmod 1000), .int .i64 kind, .int .u64 u, .string b] 24)).cell? ⟨w.heap.size, 2, none⟩ = some (.int .u64 u) := cell_of_row _ _ 2 _ 24 (0, 0) hg0
  have x3 : (w.alloc (.cells #[.int .i64 (100 + num.tmod 1000), .int .i64 kind, .int .u64 u, .string b] 24)).cell? ⟨w.heap.size, 3, none⟩ = some (.string b) := cell_of_row _ _ 3 _ 24 (0, 0) hg0
  clear hb0 hg0 hf hf1
  have HB1 := Lib.hid (show ∀ w2, Below _ _ w2 → Below w.heap.size w w2 from fun w2 hb => HB0.out.trans (hb.mono HB0.out.size))
  by_cases q1 : 100 + num.tmod 1000 < 100
  · have e1 := decide_eq_true q1
    clear q1
    go_enter Try.func3, Try.ntmps3
    go_wp2_with fail
    refine (HL.out _).mono ?_
    rintro e w2 ⟨rfl, hb⟩
    have Hb := Lib.hid (HB1.out _ hb)
    clear hb
    go_wp2
    go_ret
    exact ⟨rfl, Hb.out⟩
  · have e1 := decide_eq_false q1
    by_cases q2 : 1000000 < s.size
    · have e2 : decide ((1000000 : Int) < s.size) = true := by simp; omega
      clear q1 q2
      go_enter Try.func3, Try.ntmps3
      go_wp2_with fail
      refine (HL.out _).mono ?_
      rintro e w2 ⟨rfl, hb⟩
      have Hb := Lib.hid (HB1.out _ hb)
      clear hb
      go_wp2
      go_ret
      exact ⟨rfl, Hb.out⟩
    · have e2 : decide ((1000000 : Int) < s.size) = false := by simp; omega
      by_cases q3 : 1000000 < b.size
      · have e3 : decide ((1000000 : Int) < b.size) = true := by simp; omega
        clear q1 q2 q3
        go_enter Try.func3, Try.ntmps3
        go_wp2_with fail
        refine (HL.out _).mono ?_
        rintro e w2 ⟨rfl, hb⟩
        have Hb := Lib.hid (HB1.out _ hb)
        clear hb
        go_wp2
        go_ret
        exact ⟨rfl, Hb.out⟩
      · have e3 : decide ((1000000 : Int) < b.size) = false := by simp; omega
        have hbk : (textB [⟨100 + num.tmod 1000, kind, u, b⟩]).size ≤ 2000000 := by
          have := text_le [⟨100 + num.tmod 1000, kind, u, b⟩]
          simp only [bulk] at this
          omega
        have HT := Lib.hid hbk
        obtain ⟨r, er, hw⟩ := wrIs_any [⟨100 + num.tmod 1000, kind, u, b⟩]
        have HWI := Lib.hid hw
        have HW := Lib.hid (rwrite_any [⟨100 + num.tmod 1000, kind, u, b⟩] (some ⟨w.heap.size + 1, 0, none⟩) 1 1 ((w.alloc (.cells #[.int .i64 (100 + num.tmod 1000), .int .i64 kind, .int .u64 u, .string b] 24)).alloc (.cells #[.int .i64 (100 + num.tmod 1000), .int .i64 kind, .int .u64 u, .string b] 24)) (w.heap.size + 1 + 1) (flds_one (heap_second w (.cells #[.int .i64 (100 + num.tmod 1000), .int .i64 kind, .int .u64 u, .string b] 24) (.cells #[.int .i64 (100 + num.tmod 1000), .int .i64 kind, .int .u64 u, .string b] 24) (w.heap.size + 1) rfl)) (by simp) (fun f hf => by simp only [List.mem_singleton] at hf; subst hf; exact HF1.out) (by omega) r er hw)
        have HB2 := Lib.hid (show Below w.heap.size w ((w.alloc (.cells #[.int .i64 (100 + num.tmod 1000), .int .i64 kind, .int .u64 u, .string b] 24)).alloc (.cells #[.int .i64 (100 + num.tmod 1000), .int .i64 kind, .int .u64 u, .string b] 24)) from HB0.out.alloc HB0.out.size _)
        have s1 := Lib.hid (show s.size ≤ 1000000 by omega)
        have Q1 := Lib.hid q1
        clear hbk hw q1 q2 q3
        by_cases qe : er = 0
        · have e4 : (er != 0) = false := by simp [qe]
          have hr := Lib.hid (show AllGood [⟨100 + num.tmod 1000, kind, u, b⟩] ∧ r = textB [⟨100 + num.tmod 1000, kind, u, b⟩] from by
            rcases HWI.out with ⟨_, _, h⟩ | ⟨_, _, _, h⟩ | ⟨h1, _, h2, _⟩
            · omega
            · omega
            · exact ⟨h1, h2⟩)
          clear qe
          obtain ⟨G, hG⟩ : ∃ G, G = decG s := ⟨_, rfl⟩
          obtain ⟨ed, hed⟩ : ∃ ed, ed = decErr s := ⟨_, rfl⟩
          have HD := Lib.hid (show ∀ w, Calls Try.prog 9 #[.string s] w (DecTo G ed w) from fun w => by rw [hG, hed]; exact decode_to s w hs)
          obtain ⟨l, ef, hfd⟩ := fdsIs_any s
          have HF := Lib.hid (fun w => rfields_any s w hs l ef hfd)
          have rz := Lib.hid (show r.size ≤ 2000000 by rw [hr.out.2]; exact HT.out)
          have r1 : ¬ 9223372036854775807 < r.size + s.size := by have := rz.out; have := s1.out; omega
          have r2 : ¬ 9223372036854775807 < s.size + r.size := by have := rz.out; have := s1.out; omega
          by_cases qf : ef = 0
          · have HP := Lib.hid (show decodeE (r ++ s) = decodeE s ∧ decodeE (s ++ r) = decodeE s from by
              rcases hfd with ⟨_, _, h⟩ | ⟨_, _, _, h⟩ | ⟨h1, h2, _⟩
              · omega
              · omega
              · rw [hr.out.2]
                exact passes_plain (fldsE_some h2 h1) hr.out.1 HF1.out (by dsimp only; have := Q1.out; omega) (by have := HT.out; have := s1.out; omega))
            have e5 : (ef != 0) = false := by simp [qf]
            clear qf hfd
            cases behind with
            | false =>
              have HD2 := Lib.hid (show ∀ w, Calls Try.prog 9 #[.string (r ++ s)] w (DecTo G ed w) from fun w => by rw [hG, hed, decG, decErr, ← HP.out.1]; exact decode_to (r ++ s) w (by rw [size_app]; have := rz.out; have := s1.out; omega))
              clear hG hed
              go_enter Try.func3, Try.ntmps3
              go_wp2_with fail
              refine HW.out.mono ?_
              rintro e w3 ⟨rfl, hb3⟩
              have Hb3 := Lib.hid (HB2.out.trans (hb3.mono HB2.out.size))
              clear hb3
              go_wp2_with fail
              refine (HD.out _).mono ?_
              rintro e w4 ⟨A1, c1, A2, c2, A3, c3, A4, c4, rfl, hb4, hat4⟩
              have Hb4 := Lib.hid (Hb3.out.trans (hb4.mono Hb3.out.size))
              have z3 := Hb3.out.size
              have HG4 := Lib.hid (heap_alloc_new w4 (.cells #[.string G.name, .slice A1 G.nodes.length c1, .slice A2 G.ins.length c2, .slice A3 G.outs.length c3, .slice A4 G.inits.length c4] 34))
              have hbt : Below w4.heap.size w4 (w4.alloc (.cells #[.string G.name, .slice A1 G.nodes.length c1, .slice A2 G.ins.length c2, .slice A3 G.outs.length c3, .slice A4 G.inits.length c4] 34)) := (Below.refl _ _).alloc (Nat.le_refl _) _
              have Ha4 := Lib.hid (hat4.later hbt (lo' := w.heap.size) z3)
              have Hb4' := Lib.hid (Hb4.out.trans (hbt.mono Hb4.out.size))
              have z4 : (w4.alloc (.cells #[.string G.name, .slice A1 G.nodes.length c1, .slice A2 G.ins.length c2, .slice A3 G.outs.length c3, .slice A4 G.inits.length c4] 34)).heap.size = w4.heap.size + 1 := by simp
              clear hb4 hat4 hbt
              go_wp2_with fail
              generalize w4.alloc (.cells #[.string G.name, .slice A1 G.nodes.length c1, .slice A2 G.ins.length c2, .slice A3 G.outs.length c3, .slice A4 G.inits.length c4] 34) = w5 at HG4 Ha4 Hb4' z4 ⊢
              refine (HF.out _).mono ?_
              rintro e w6 ⟨A, n, c, rfl, hn, hown, hb6⟩
              have z6 := hb6.size
              have HG6 := Lib.hid ((hb6.block w4.heap.size (by omega)).trans HG4.out)
              have Ha6 := Lib.hid (Ha4.out.later hb6 (Nat.le_refl _))
              have Hb6 := Lib.hid (Hb4'.out.trans (hb6.mono Hb4'.out.size))
              clear hb6 hown hn HG4 Ha4
              go_wp2_with fail
              refine (HD2.out _).mono ?_
              rintro e w7 ⟨B1, d1, B2, d2, B3, d3, B4, d4, rfl, hb7, hat7⟩
              have z7 := hb7.size
              have hbt : Below w7.heap.size w7 (w7.alloc (.cells #[.string G.name, .slice B1 G.nodes.length d1, .slice B2 G.ins.length d2, .slice B3 G.outs.length d3, .slice B4 G.inits.length d4] 34)) := (Below.refl _ _).alloc (Nat.le_refl _) _
              have hbt6 : Below w6.heap.size w6 (w7.alloc (.cells #[.string G.name, .slice B1 G.nodes.length d1, .slice B2 G.ins.length d2, .slice B3 G.outs.length d3, .slice B4 G.inits.length d4] 34)) := hb7.alloc hb7.size _
              have Ha8 := Lib.hid (Ha6.out.later hbt6 (Nat.le_refl _))
              have Hc8 := Lib.hid (hat7.later hbt (lo' := w.heap.size) Hb6.out.size)
              have hg4 := (hbt6.block w4.heap.size (by omega)).trans HG6.out
              have hg7 := heap_alloc_new w7 (.cells #[.string G.name, .slice B1 G.nodes.length d1, .slice B2 G.ins.length d2, .slice B3 G.outs.length d3, .slice B4 G.inits.length d4] 34)
              have Hb8 := Lib.hid (Hb6.out.trans (hbt6.mono Hb6.out.size))
              have z8 : (w7.alloc (.cells #[.string G.name, .slice B1 G.nodes.length d1, .slice B2 G.ins.length d2, .slice B3 G.outs.length d3, .slice B4 G.inits.length d4] 34)).heap.size = w7.heap.size + 1 := by simp
              have x0 := cell_of_row _ _ 0 _ 34 (0, 0) hg4
              have x1 := cell_of_row _ _ 1 _ 34 (0, 0) hg4
              have x2 := cell_of_row _ _ 2 _ 34 (0, 0) hg4
              have x3 := cell_of_row _ _ 3 _ 34 (0, 0) hg4
              have x4 := cell_of_row _ _ 4 _ 34 (0, 0) hg4
              have y0 := cell_of_row _ _ 0 _ 34 (0, 0) hg7
              have y1 := cell_of_row _ _ 1 _ 34 (0, 0) hg7
              have y2 := cell_of_row _ _ 2 _ 34 (0, 0) hg7
              have y3 := cell_of_row _ _ 3 _ 34 (0, 0) hg7
              have y4 := cell_of_row _ _ 4 _ 34 (0, 0) hg7
              simp only [List.getElem?_toArray, List.getElem?_cons_zero, List.getElem?_cons_succ] at x0 x1 x2 x3 x4 y0 y1 y2 y3 y4
              clear hb7 hat7 hbt hbt6 hg4 hg7 HG6 Ha6
              have beq : (ed == ed) = true := by simp
              go_wp2_with fail
              refine (same_yes G _ (Since w.heap.size _) A1 A2 A3 A4 B1 B2 B3 B4 _ _ _ _ c1 c2 c3 c4 d1 d2 d3 d4 Ha8.out.nodes Ha8.out.ins Ha8.out.outs Ha8.out.inits Hc8.out.nodes Hc8.out.ins Hc8.out.outs Hc8.out.inits (fun k hk => hk.2)).mono ?_
              rintro e w8 ⟨rfl, hb8⟩
              have Hb9 := Lib.hid (Hb8.out.trans (hb8.mono Hb8.out.size))
              clear hb8
              go_wp2_with fail
              refine (HL.out _).mono ?_
              rintro e w9 ⟨rfl, hb⟩
              have Hb := Lib.hid (Hb9.out.trans (hb.mono Hb9.out.size))
              clear hb
              go_wp2
              go_ret
              exact ⟨rfl, Hb.out⟩
            | true =>
              have HD2 := Lib.hid (show ∀ w, Calls Try.prog 9 #[.string (s ++ r)] w (DecTo G ed w) from fun w => by rw [hG, hed, decG, decErr, ← HP.out.2]; exact decode_to (s ++ r) w (by rw [size_app]; have := rz.out; have := s1.out; omega))
              clear hG hed
              go_enter Try.func3, Try.ntmps3
              go_wp2_with fail
              refine HW.out.mono ?_
              rintro e w3 ⟨rfl, hb3⟩
              have Hb3 := Lib.hid (HB2.out.trans (hb3.mono HB2.out.size))
              clear hb3
              go_wp2_with fail
              refine (HD.out _).mono ?_
              rintro e w4 ⟨A1, c1, A2, c2, A3, c3, A4, c4, rfl, hb4, hat4⟩
              have Hb4 := Lib.hid (Hb3.out.trans (hb4.mono Hb3.out.size))
              have z3 := Hb3.out.size
              have HG4 := Lib.hid (heap_alloc_new w4 (.cells #[.string G.name, .slice A1 G.nodes.length c1, .slice A2 G.ins.length c2, .slice A3 G.outs.length c3, .slice A4 G.inits.length c4] 34))
              have hbt : Below w4.heap.size w4 (w4.alloc (.cells #[.string G.name, .slice A1 G.nodes.length c1, .slice A2 G.ins.length c2, .slice A3 G.outs.length c3, .slice A4 G.inits.length c4] 34)) := (Below.refl _ _).alloc (Nat.le_refl _) _
              have Ha4 := Lib.hid (hat4.later hbt (lo' := w.heap.size) z3)
              have Hb4' := Lib.hid (Hb4.out.trans (hbt.mono Hb4.out.size))
              have z4 : (w4.alloc (.cells #[.string G.name, .slice A1 G.nodes.length c1, .slice A2 G.ins.length c2, .slice A3 G.outs.length c3, .slice A4 G.inits.length c4] 34)).heap.size = w4.heap.size + 1 := by simp
              clear hb4 hat4 hbt
              go_wp2_with fail
              generalize w4.alloc (.cells #[.string G.name, .slice A1 G.nodes.length c1, .slice A2 G.ins.length c2, .slice A3 G.outs.length c3, .slice A4 G.inits.length c4] 34) = w5 at HG4 Ha4 Hb4' z4 ⊢
              refine (HF.out _).mono ?_
              rintro e w6 ⟨A, n, c, rfl, hn, hown, hb6⟩
              have z6 := hb6.size
              have HG6 := Lib.hid ((hb6.block w4.heap.size (by omega)).trans HG4.out)
              have Ha6 := Lib.hid (Ha4.out.later hb6 (Nat.le_refl _))
              have Hb6 := Lib.hid (Hb4'.out.trans (hb6.mono Hb4'.out.size))
              clear hb6 hown hn HG4 Ha4
              go_wp2_with fail
              refine (HD2.out _).mono ?_
              rintro e w7 ⟨B1, d1, B2, d2, B3, d3, B4, d4, rfl, hb7, hat7⟩
              have z7 := hb7.size
              have hbt : Below w7.heap.size w7 (w7.alloc (.cells #[.string G.name, .slice B1 G.nodes.length d1, .slice B2 G.ins.length d2, .slice B3 G.outs.length d3, .slice B4 G.inits.length d4] 34)) := (Below.refl _ _).alloc (Nat.le_refl _) _
              have hbt6 : Below w6.heap.size w6 (w7.alloc (.cells #[.string G.name, .slice B1 G.nodes.length d1, .slice B2 G.ins.length d2, .slice B3 G.outs.length d3, .slice B4 G.inits.length d4] 34)) := hb7.alloc hb7.size _
              have Ha8 := Lib.hid (Ha6.out.later hbt6 (Nat.le_refl _))
              have Hc8 := Lib.hid (hat7.later hbt (lo' := w.heap.size) Hb6.out.size)
              have hg4 := (hbt6.block w4.heap.size (by omega)).trans HG6.out
              have hg7 := heap_alloc_new w7 (.cells #[.string G.name, .slice B1 G.nodes.length d1, .slice B2 G.ins.length d2, .slice B3 G.outs.length d3, .slice B4 G.inits.length d4] 34)
              have Hb8 := Lib.hid (Hb6.out.trans (hbt6.mono Hb6.out.size))
              have z8 : (w7.alloc (.cells #[.string G.name, .slice B1 G.nodes.length d1, .slice B2 G.ins.length d2, .slice B3 G.outs.length d3, .slice B4 G.inits.length d4] 34)).heap.size = w7.heap.size + 1 := by simp
              have x0 := cell_of_row _ _ 0 _ 34 (0, 0) hg4
              have x1 := cell_of_row _ _ 1 _ 34 (0, 0) hg4
              have x2 := cell_of_row _ _ 2 _ 34 (0, 0) hg4
              have x3 := cell_of_row _ _ 3 _ 34 (0, 0) hg4
              have x4 := cell_of_row _ _ 4 _ 34 (0, 0) hg4
              have y0 := cell_of_row _ _ 0 _ 34 (0, 0) hg7
              have y1 := cell_of_row _ _ 1 _ 34 (0, 0) hg7
              have y2 := cell_of_row _ _ 2 _ 34 (0, 0) hg7
              have y3 := cell_of_row _ _ 3 _ 34 (0, 0) hg7
              have y4 := cell_of_row _ _ 4 _ 34 (0, 0) hg7
              simp only [List.getElem?_toArray, List.getElem?_cons_zero, List.getElem?_cons_succ] at x0 x1 x2 x3 x4 y0 y1 y2 y3 y4
              clear hb7 hat7 hbt hbt6 hg4 hg7 HG6 Ha6
              have beq : (ed == ed) = true := by simp
              go_wp2_with fail
              refine (same_yes G _ (Since w.heap.size _) A1 A2 A3 A4 B1 B2 B3 B4 _ _ _ _ c1 c2 c3 c4 d1 d2 d3 d4 Ha8.out.nodes Ha8.out.ins Ha8.out.outs Ha8.out.inits Hc8.out.nodes Hc8.out.ins Hc8.out.outs Hc8.out.inits (fun k hk => hk.2)).mono ?_
              rintro e w8 ⟨rfl, hb8⟩
              have Hb9 := Lib.hid (Hb8.out.trans (hb8.mono Hb8.out.size))
              clear hb8
              go_wp2_with fail
              refine (HL.out _).mono ?_
              rintro e w9 ⟨rfl, hb⟩
              have Hb := Lib.hid (Hb9.out.trans (hb.mono Hb9.out.size))
              clear hb
              go_wp2
              go_ret
              exact ⟨rfl, Hb.out⟩
          · have e5 : (ef != 0) = true := by simp [qf]
            clear qf hfd hG hed
            cases behind with
            | false =>
              have HD2 := Lib.hid (fun w => decode_to (r ++ s) w (by rw [size_app]; have := rz.out; have := s1.out; omega))
              go_enter Try.func3, Try.ntmps3
              go_wp2_with fail
              refine HW.out.mono ?_
              rintro e w3 ⟨rfl, hb3⟩
              have Hb3 := Lib.hid (HB2.out.trans (hb3.mono HB2.out.size))
              clear hb3
              go_wp2_with fail
              refine (HD.out _).mono ?_
              rintro e w4 ⟨A1, c1, A2, c2, A3, c3, A4, c4, rfl, hb4, hat4⟩
              have Hb4 := Lib.hid (Hb3.out.trans (hb4.mono Hb3.out.size))
              have z3 := Hb3.out.size
              have HG4 := Lib.hid (heap_alloc_new w4 (.cells #[.string G.name, .slice A1 G.nodes.length c1, .slice A2 G.ins.length c2, .slice A3 G.outs.length c3, .slice A4 G.inits.length c4] 34))
              have hbt : Below w4.heap.size w4 (w4.alloc (.cells #[.string G.name, .slice A1 G.nodes.length c1, .slice A2 G.ins.length c2, .slice A3 G.outs.length c3, .slice A4 G.inits.length c4] 34)) := (Below.refl _ _).alloc (Nat.le_refl _) _
              have Ha4 := Lib.hid (hat4.later hbt (lo' := w.heap.size) z3)
              have Hb4' := Lib.hid (Hb4.out.trans (hbt.mono Hb4.out.size))
              have z4 : (w4.alloc (.cells #[.string G.name, .slice A1 G.nodes.length c1, .slice A2 G.ins.length c2, .slice A3 G.outs.length c3, .slice A4 G.inits.length c4] 34)).heap.size = w4.heap.size + 1 := by simp
              clear hb4 hat4 hbt
              go_wp2_with fail
              generalize w4.alloc (.cells #[.string G.name, .slice A1 G.nodes.length c1, .slice A2 G.ins.length c2, .slice A3 G.outs.length c3, .slice A4 G.inits.length c4] 34) = w5 at HG4 Ha4 Hb4' z4 ⊢
              refine (HF.out _).mono ?_
              rintro e w6 ⟨A, n, c, rfl, hn, hown, hb6⟩
              have z6 := hb6.size
              have HG6 := Lib.hid ((hb6.block w4.heap.size (by omega)).trans HG4.out)
              have Ha6 := Lib.hid (Ha4.out.later hb6 (Nat.le_refl _))
              have Hb6 := Lib.hid (Hb4'.out.trans (hb6.mono Hb4'.out.size))
              clear hb6 hown hn HG4 Ha4
              go_wp2_with fail
              refine (HD2.out _).mono ?_
              rintro e w7 ⟨B1, d1, B2, d2, B3, d3, B4, d4, rfl, hb7, hat7⟩
              have z7 := hb7.size
              have hbt : Below w7.heap.size w7 (w7.alloc (.cells #[.string (decG (r ++ s)).name, .slice B1 (decG (r ++ s)).nodes.length d1, .slice B2 (decG (r ++ s)).ins.length d2, .slice B3 (decG (r ++ s)).outs.length d3, .slice B4 (decG (r ++ s)).inits.length d4] 34)) := (Below.refl _ _).alloc (Nat.le_refl _) _
              have hbt6 : Below w6.heap.size w6 (w7.alloc (.cells #[.string (decG (r ++ s)).name, .slice B1 (decG (r ++ s)).nodes.length d1, .slice B2 (decG (r ++ s)).ins.length d2, .slice B3 (decG (r ++ s)).outs.length d3, .slice B4 (decG (r ++ s)).inits.length d4] 34)) := hb7.alloc hb7.size _
              have Ha8 := Lib.hid (Ha6.out.later hbt6 (Nat.le_refl _))
              have Hc8 := Lib.hid (hat7.later hbt (lo' := w.heap.size) Hb6.out.size)
              have hg4 := (hbt6.block w4.heap.size (by omega)).trans HG6.out
              have hg7 := heap_alloc_new w7 (.cells #[.string (decG (r ++ s)).name, .slice B1 (decG (r ++ s)).nodes.length d1, .slice B2 (decG (r ++ s)).ins.length d2, .slice B3 (decG (r ++ s)).outs.length d3, .slice B4 (decG (r ++ s)).inits.length d4] 34)
              have Hb8 := Lib.hid (Hb6.out.trans (hbt6.mono Hb6.out.size))
              have z8 : (w7.alloc (.cells #[.string (decG (r ++ s)).name, .slice B1 (decG (r ++ s)).nodes.length d1, .slice B2 (decG (r ++ s)).ins.length d2, .slice B3 (decG (r ++ s)).outs.length d3, .slice B4 (decG (r ++ s)).inits.length d4] 34)).heap.size = w7.heap.size + 1 := by simp
              have x0 := cell_of_row _ _ 0 _ 34 (0, 0) hg4
              have x1 := cell_of_row _ _ 1 _ 34 (0, 0) hg4
              have x2 := cell_of_row _ _ 2 _ 34 (0, 0) hg4
              have x3 := cell_of_row _ _ 3 _ 34 (0, 0) hg4
              have x4 := cell_of_row _ _ 4 _ 34 (0, 0) hg4
              have y0 := cell_of_row _ _ 0 _ 34 (0, 0) hg7
              have y1 := cell_of_row _ _ 1 _ 34 (0, 0) hg7
              have y2 := cell_of_row _ _ 2 _ 34 (0, 0) hg7
              have y3 := cell_of_row _ _ 3 _ 34 (0, 0) hg7
              have y4 := cell_of_row _ _ 4 _ 34 (0, 0) hg7
              simp only [List.getElem?_toArray, List.getElem?_cons_zero, List.getElem?_cons_succ] at x0 x1 x2 x3 x4 y0 y1 y2 y3 y4
              clear hb7 hat7 hbt hbt6 hg4 hg7 HG6 Ha6
              go_wp2_with fail
              refine (HL.out _).mono ?_
              rintro e w9 ⟨rfl, hb⟩
              have Hb := Lib.hid (Hb8.out.trans (hb.mono Hb8.out.size))
              clear hb
              go_wp2
              go_ret
              exact ⟨rfl, Hb.out⟩
            | true =>
              have HD2 := Lib.hid (fun w => decode_to (s ++ r) w (by rw [size_app]; have := rz.out; have := s1.out; omega))
              go_enter Try.func3, Try.ntmps3
              go_wp2_with fail
              refine HW.out.mono ?_
              rintro e w3 ⟨rfl, hb3⟩
              have Hb3 := Lib.hid (HB2.out.trans (hb3.mono HB2.out.size))
              clear hb3
              go_wp2_with fail
              refine (HD.out _).mono ?_
              rintro e w4 ⟨A1, c1, A2, c2, A3, c3, A4, c4, rfl, hb4, hat4⟩
              have Hb4 := Lib.hid (Hb3.out.trans (hb4.mono Hb3.out.size))
              have z3 := Hb3.out.size
              have HG4 := Lib.hid (heap_alloc_new w4 (.cells #[.string G.name, .slice A1 G.nodes.length c1, .slice A2 G.ins.length c2, .slice A3 G.outs.length c3, .slice A4 G.inits.length c4] 34))
              have hbt : Below w4.heap.size w4 (w4.alloc (.cells #[.string G.name, .slice A1 G.nodes.length c1, .slice A2 G.ins.length c2, .slice A3 G.outs.length c3, .slice A4 G.inits.length c4] 34)) := (Below.refl _ _).alloc (Nat.le_refl _) _
              have Ha4 := Lib.hid (hat4.later hbt (lo' := w.heap.size) z3)
              have Hb4' := Lib.hid (Hb4.out.trans (hbt.mono Hb4.out.size))
              have z4 : (w4.alloc (.cells #[.string G.name, .slice A1 G.nodes.length c1, .slice A2 G.ins.length c2, .slice A3 G.outs.length c3, .slice A4 G.inits.length c4] 34)).heap.size = w4.heap.size + 1 := by simp
              clear hb4 hat4 hbt
              go_wp2_with fail
              generalize w4.alloc (.cells #[.string G.name, .slice A1 G.nodes.length c1, .slice A2 G.ins.length c2, .slice A3 G.outs.length c3, .slice A4 G.inits.length c4] 34) = w5 at HG4 Ha4 Hb4' z4 ⊢
              refine (HF.out _).mono ?_
              rintro e w6 ⟨A, n, c, rfl, hn, hown, hb6⟩
              have z6 := hb6.size
              have HG6 := Lib.hid ((hb6.block w4.heap.size (by omega)).trans HG4.out)
              have Ha6 := Lib.hid (Ha4.out.later hb6 (Nat.le_refl _))
              have Hb6 := Lib.hid (Hb4'.out.trans (hb6.mono Hb4'.out.size))
              clear hb6 hown hn HG4 Ha4
              go_wp2_with fail
              refine (HD2.out _).mono ?_
              rintro e w7 ⟨B1, d1, B2, d2, B3, d3, B4, d4, rfl, hb7, hat7⟩
              have z7 := hb7.size
              have hbt : Below w7.heap.size w7 (w7.alloc (.cells #[.string (decG (s ++ r)).name, .slice B1 (decG (s ++ r)).nodes.length d1, .slice B2 (decG (s ++ r)).ins.length d2, .slice B3 (decG (s ++ r)).outs.length d3, .slice B4 (decG (s ++ r)).inits.length d4] 34)) := (Below.refl _ _).alloc (Nat.le_refl _) _
              have hbt6 : Below w6.heap.size w6 (w7.alloc (.cells #[.string (decG (s ++ r)).name, .slice B1 (decG (s ++ r)).nodes.length d1, .slice B2 (decG (s ++ r)).ins.length d2, .slice B3 (decG (s ++ r)).outs.length d3, .slice B4 (decG (s ++ r)).inits.length d4] 34)) := hb7.alloc hb7.size _
              have Ha8 := Lib.hid (Ha6.out.later hbt6 (Nat.le_refl _))
              have Hc8 := Lib.hid (hat7.later hbt (lo' := w.heap.size) Hb6.out.size)
              have hg4 := (hbt6.block w4.heap.size (by omega)).trans HG6.out
              have hg7 := heap_alloc_new w7 (.cells #[.string (decG (s ++ r)).name, .slice B1 (decG (s ++ r)).nodes.length d1, .slice B2 (decG (s ++ r)).ins.length d2, .slice B3 (decG (s ++ r)).outs.length d3, .slice B4 (decG (s ++ r)).inits.length d4] 34)
              have Hb8 := Lib.hid (Hb6.out.trans (hbt6.mono Hb6.out.size))
              have z8 : (w7.alloc (.cells #[.string (decG (s ++ r)).name, .slice B1 (decG (s ++ r)).nodes.length d1, .slice B2 (decG (s ++ r)).ins.length d2, .slice B3 (decG (s ++ r)).outs.length d3, .slice B4 (decG (s ++ r)).inits.length d4] 34)).heap.size = w7.heap.size + 1 := by simp
              have x0 := cell_of_row _ _ 0 _ 34 (0, 0) hg4
              have x1 := cell_of_row _ _ 1 _ 34 (0, 0) hg4
              have x2 := cell_of_row _ _ 2 _ 34 (0, 0) hg4
              have x3 := cell_of_row _ _ 3 _ 34 (0, 0) hg4
              have x4 := cell_of_row _ _ 4 _ 34 (0, 0) hg4
              have y0 := cell_of_row _ _ 0 _ 34 (0, 0) hg7
              have y1 := cell_of_row _ _ 1 _ 34 (0, 0) hg7
              have y2 := cell_of_row _ _ 2 _ 34 (0, 0) hg7
              have y3 := cell_of_row _ _ 3 _ 34 (0, 0) hg7
              have y4 := cell_of_row _ _ 4 _ 34 (0, 0) hg7
              simp only [List.getElem?_toArray, List.getElem?_cons_zero, List.getElem?_cons_succ] at x0 x1 x2 x3 x4 y0 y1 y2 y3 y4
              clear hb7 hat7 hbt hbt6 hg4 hg7 HG6 Ha6
              go_wp2_with fail
              refine (HL.out _).mono ?_
              rintro e w9 ⟨rfl, hb⟩
              have Hb := Lib.hid (Hb8.out.trans (hb.mono Hb8.out.size))
              clear hb
              go_wp2
              go_ret
              exact ⟨rfl, Hb.out⟩
        · have e4 : (er != 0) = true := by simp [qe]
          clear qe
          go_enter Try.func3, Try.ntmps3
          go_wp2_with fail
          refine HW.out.mono ?_
          rintro e w3 ⟨rfl, hb3⟩
          have Hb3 := Lib.hid (HB2.out.trans (hb3.mono HB2.out.size))
          clear hb3
          go_wp2_with fail
          refine (HL.out _).mono ?_
          rintro e w9 ⟨rfl, hb⟩
          have Hb := Lib.hid (Hb3.out.trans (hb.mono Hb3.out.size))
          clear hb
          go_wp2
          go_ret
          exact ⟨rfl, Hb.out⟩
end Go.Proofs.Ytkcnpnnflbibiaa
