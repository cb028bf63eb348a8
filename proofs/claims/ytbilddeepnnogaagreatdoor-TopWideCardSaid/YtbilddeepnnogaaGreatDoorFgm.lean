import Derived.Test.YtbilddeepnnogaaGreatDoorFem
import Derived.BigQuiet
set_option linter.unusedVariables false
set_option linter.unusedSimpArgs false
/- Fusion: its parts. -/
section
set_option linter.unusedVariables false
set_option maxRecDepth 100000
namespace Go.Proofs.YtbilddeepnnogaaGreatDoor
open Go.RowKit Go.Shelf

theorem fofOne_yes (o : ByteArray) (h : Ops1 o) (w : World) : Calls Tryz.prog 104 #[.string o] w fun e w' => e = .returned (.bool true) ∧ w' = w := by
  rcases h with rfl | rfl | rfl
  all_goals
    go_enter Tryz.func104, Tryz.ntmps104
    go_wp2
    go_ret
    exact ⟨rfl, rfl⟩
theorem fofOne_no (w : World) : Calls Tryz.prog 104 #[.string ⟨#[65, 100, 100]⟩] w fun e w' => e = .returned (.bool false) ∧ w' = w := by
  go_enter Tryz.func104, Tryz.ntmps104
  go_wp2
  go_ret
  exact ⟨rfl, rfl⟩
/-- No value that is put out is named x. -/
theorem out_toList {l : List Op1} (h : FlatL l) {o : Op1} (ho : o ∈ l) : (o.out.toList == [120]) = false := by
  have := (h.outs o ho).2
  simpa using this
set_option maxHeartbeats 1600000 in
theorem clo106 (s : ByteArray) (v1 v2 : Value) (b : Nat) (W : World) (b2 off2 m c : Nat) (hc : W.cell? ⟨b, 2, none⟩ = some (.slice (some ⟨b2, off2, none⟩) m c)) (h0 : W.cell? ⟨b2, off2, none⟩ = some (.string ⟨#[120]⟩)) (hm : 0 < m) (hs : (s.toList == [120]) = false) :
    Calls Tryz.prog 106 #[.agg #[.string s, v1, v2], .pointer (some ⟨b, 0, none⟩)] W fun e W' => e = .returned (.bool false) ∧ Since W W' := by
  have n1 := World.block_lt_of_cell? W ⟨b, 2, none⟩ hc
  have n2 := World.block_lt_of_cell? W ⟨b2, off2, none⟩ h0
  dsimp only at n1 n2
  have hmm : (0 : Int) < (m : Int) := by omega
  go_enter Tryz.func106, Tryz.ntmps106
  go_wp2_with fail
  go_quiet (fail)
  go_wp2_with fail
  go_ret
  exact ⟨rfl, ((Since.refl W).al _).drN _⟩
/-- No output is named x. -/
theorem idx186 (A : Option Addr) (c : Nat) (l : List Op1) (x : Int) (hl : FlatL l) (b : Nat) (W : World) (b2 off2 m c2 : Nat) (hv : VlAt W A (l.map (·.out)) x) (hc : W.cell? ⟨b, 2, none⟩ = some (.slice (some ⟨b2, off2, none⟩) m c2)) (h0 : W.cell? ⟨b2, off2, none⟩ = some (.string ⟨#[120]⟩)) (hm : 0 < m) :
    Calls Tryz.prog 186 #[.slice A l.length c, .func (.func 106) #[] #[.pointer (some ⟨b, 0, none⟩)]] W fun e W' => e = .returned (.int .i64 (-1)) ∧ Since W W' := by
  have hnl : (l.length : Int) ≤ 5 := by have := hl.most; omega
  have HV := Lib.hid hv
  have HC := Lib.hid hc
  have H0 := Lib.hid h0
  clear hv hc h0
  go_enter Tryz.func186, Tryz.ntmps186
  go_wp2_with fail
  go_loopw [8] (fun i wr => ∃ k : Nat, k ≤ l.length ∧ i = .int .i64 k ∧ Since W wr) (fun i _ => l.length - (intOf i).toNat)
  case atStart => exact ⟨0, by omega, rfl, Since.refl _⟩
  case round =>
    obtain ⟨k, hk, rfl, hs⟩ := hrel
    by_cases hlt : k < l.length
    · obtain ⟨bv, offv, rfl, hbv, hcv⟩ := HV.out.below hs
      obtain ⟨o, ho⟩ : ∃ o, l[k]? = some o := ⟨_, List.getElem?_eq_getElem hlt⟩
      obtain ⟨Ad, cd, q0, q1, q2, q3⟩ := hcv k o.out (by simp [ho])
      have hC := clo106 o.out (.int .i64 6) (.slice Ad 1 cd) b wr b2 off2 m c2 ((hs.cell (p := ⟨b, 2, none⟩) (World.block_lt_of_cell? W ⟨b, 2, none⟩ HC.out)).trans HC.out) ((hs.cell (p := ⟨b2, off2, none⟩) (World.block_lt_of_cell? W ⟨b2, off2, none⟩ H0.out)).trans H0.out) hm (out_toList hl (List.mem_of_getElem? ho))
      have HS := Lib.hid hs
      clear hs hcv q3 ho
      go_wp2_with (go_at_call 106; refine hC.mono ?_; rintro e w3 ⟨rfl, hs3⟩)
      go_roundw
      case rel => exact ⟨k + 1, by omega, by go_num, HS.out.trans hs3⟩
      case measure => simp [intOf]; omega
    · obtain rfl : k = l.length := by omega
      have HS := Lib.hid hs
      clear hs
      go_wp2_with fail
      go_ret
      exact ⟨rfl, HS.out⟩
theorem has105 (A : Option Addr) (c : Nat) (l : List Op1) (x : Int) (hl : FlatL l) (b : Nat) (W : World) (b2 off2 m c2 : Nat) (hv : VlAt W A (l.map (·.out)) x) (hc : W.cell? ⟨b, 2, none⟩ = some (.slice (some ⟨b2, off2, none⟩) m c2)) (h0 : W.cell? ⟨b2, off2, none⟩ = some (.string ⟨#[120]⟩)) (hm : 0 < m) :
    Calls Tryz.prog 105 #[.slice A l.length c, .func (.func 106) #[] #[.pointer (some ⟨b, 0, none⟩)]] W fun e W' => e = .returned (.bool false) ∧ Since W W' := by
  have hC := idx186 A c l x hl b W b2 off2 m c2 hv hc h0 hm
  clear hv hc h0
  go_enter Tryz.func105, Tryz.ntmps105
  go_wp2_with (go_at_call 186; refine hC.mono ?_; rintro e w3 ⟨rfl, hs3⟩)
  go_ret
  exact ⟨rfl, hs3⟩
set_option maxHeartbeats 1600000 in
theorem readers_any (gn : ByteArray) (An Ai Ao : Option Addr) (cn ci co : Nat) (l : List Op1) (x : Int) (w : World) (h : FlatG w An Ai Ao l x) :
    Calls Tryz.prog 107 #[.agg #[.string gn, .slice An l.length cn, .slice Ai 1 ci, .slice Ao l.length co, .slice none 0 0], .string ⟨#[120]⟩] w fun e w' => ∃ A c, e = .returned (.slice A l.length c) ∧ Since w w' := by
  have H := Lib.hid h
  have hnl : (l.length : Int) ≤ 5 := by have := h.ok.most; omega
  obtain ⟨i3, hi3⟩ : ∃ i3, Tryz.prog.info? 3 = some i3 ∧ i3.zero = some (.int .i64 0) ∧ i3.size = 1 ∧ i3.bytes = 8 := by
    obtain ⟨i, h1, h2, h3, h4⟩ := info_parts Tryz.info3
    exact ⟨i, h1, h2, h3, h4⟩
  have HI := Lib.hid hi3
  clear hi3 h
  go_enter Tryz.func107, Tryz.ntmps107
  go_wp2_with fail
  have hw1 : Since w (w.alloc (.cells #[.string gn, .slice An l.length cn, .slice Ai 1 ci, .slice Ao l.length co, .slice none 0 0] 33)) := (Since.refl w).al _
  have HW := Lib.hid hw1
  have HZ := Lib.hid (show w.heap.size + 1 ≤ (w.alloc (.cells #[.string gn, .slice An l.length cn, .slice Ai 1 ci, .slice Ao l.length co, .slice none 0 0] 33)).heap.size by simp)
  clear hw1
  generalize w.alloc (.cells #[.string gn, .slice An l.length cn, .slice Ai 1 ci, .slice Ao l.length co, .slice none 0 0] 33) = w1 at HW HZ ⊢
  go_loopw [5, 11] (fun v i wr => ∃ k : Nat, k ≤ l.length ∧ i = .int .i64 k ∧ Since w wr ∧ OwnL repInt 3 wr w.heap.size (fun _ => False) v (upL k)) (fun _ i _ => l.length - (intOf i).toNat)
  case atStart => exact ⟨0, by omega, rfl, HW.out, ownL_nil⟩
  case round =>
    obtain ⟨k, hk, rfl, hs, hown⟩ := hrel
    by_cases hlt : k < l.length
    · have hF := H.out.below hs
      obtain ⟨bn, offn, rfl, hbn, hcn⟩ := hF.nodes
      obtain ⟨o, ho⟩ : ∃ o, l[k]? = some o := ⟨_, List.getElem?_eq_getElem hlt⟩
      obtain ⟨nm, A', c', q0, q1, q2, q3, q4, q5⟩ := hcn k o ho
      have hm := (hF.ok.ops o (List.mem_of_getElem? ho)).cases
      have hb2 := below_new wr (.cells #[.string o.op, .string nm, .slice A' o.m c', .string o.out, .slice none 0 0] 37)
      have hC := has_x o.m hm A' c' _ (q5.below hb2)
      obtain ⟨Av, cv, hv⟩ := hown.form
      rw [upL_length] at hv
      subst hv
      have HS := Lib.hid (hs.trans hb2)
      have HO := Lib.hid (hown.keep (fun j hj => hb2.block j (hown.lt j hj).2) (fun _ h => h.elim) (fun _ h => h))
      clear hs hown hF hcn q5 ho hb2
      go_wp2_with (first
        | (go_at_call 124; refine hC.mono ?_; rintro e w' ⟨rfl, rfl⟩)
        | (at_builtin; refine wpList_append_f (wr.alloc (.cells #[.string o.op, .string nm, .slice A' o.m c', .string o.out, .slice none 0 0] 37)) repInt flatInt (k : Int) [.int .i64 (k : Int)] rfl (.tmp 20) (.tmp 22) 23 rfl 3 i3 _ 8 Tryz.underlying23 HI.out.1 HI.out.2.1 HI.out.2.2.1 HI.out.2.2.2 rfl (by decide) (by decide) w.heap.size _ (upL k) rfl HO.out rfl (wr.heap.size + 1) (by simp) rfl (by rw [upL_length]; omega) HS.out.size ?_; intro v' w7 ho7 hb7))
      go_roundw
      case rel => exact ⟨k + 1, by omega, by go_num, Below.trans HS.out hb7, by rw [upL_succ]; exact ho7⟩
      case measure => simp [intOf]; omega
    · obtain rfl : k = l.length := by omega
      obtain ⟨Av, cv, hv⟩ := hown.form
      rw [upL_length] at hv
      subst hv
      have HS := Lib.hid hs
      clear hs hown
      go_wp2_with fail
      go_ret
      exact ⟨_, _, rfl, HS.out⟩
end Go.Proofs.YtbilddeepnnogaaGreatDoor
end
/- Layouts: what the three rewritings ask of a node. -/
section
set_option linter.unusedVariables false
set_option maxRecDepth 100000
namespace Go.Proofs.YtbilddeepnnogaaGreatDoor
open Go.RowKit Go.Shelf

theorem newX1 {F : World → Prop} {w : World} {o : Obj} (hk : ∀ w1, Fx w w1 [some o] → F w1) : F (w.alloc o) := hk _ (fx1 w o)
set_option maxHeartbeats 1600000 in
theorem clo245 (s out : ByteArray) (v1 v2 : Value) (b : Nat) (W : World) (y : Bool) (hc : W.cell? ⟨b, 3, none⟩ = some (.string out)) (hs : (s.toList == out.toList) = y) :
    Calls Tryz.prog 245 #[.agg #[.string s, v1, v2], .pointer (some ⟨b, 0, none⟩)] W fun e W' => e = .returned (.bool y) ∧ Since W W' := by
  have n1 := World.block_lt_of_cell? W ⟨b, 3, none⟩ hc
  dsimp only at n1
  go_enter Tryz.func245, Tryz.ntmps245
  go_wp2_with fail
  go_ret
  exact ⟨rfl, (Since.refl W).al _⟩
set_option maxHeartbeats 1600000 in
theorem idx186b (A : Option Addr) (c : Nat) (l : List Op1) (x : Int) (hl : FlatL l) (b : Nat) (W : World) (q : Nat) (o : Op1) (hq : l[q]? = some o) (hv : VlAt W A (l.map (·.out)) x) (hc : W.cell? ⟨b, 3, none⟩ = some (.string o.out)) :
    Calls Tryz.prog 186 #[.slice A l.length c, .func (.func 245) #[] #[.pointer (some ⟨b, 0, none⟩)]] W fun e W' => (∃ j : Nat, e = .returned (.int .i64 j)) ∧ Since W W' := by
  have hnl : (l.length : Int) ≤ 5 := by have := hl.most; omega
  have hql : q < l.length := (List.getElem?_eq_some_iff.1 hq).1
  have HV := Lib.hid hv
  have HC := Lib.hid hc
  have HQ := Lib.hid hq
  clear hv hc hq
  go_enter Tryz.func186, Tryz.ntmps186
  go_wp2_with fail
  go_loopw [8] (fun i wr => ∃ k : Nat, k ≤ q ∧ i = .int .i64 k ∧ Since W wr) (fun i _ => l.length - (intOf i).toNat)
  case atStart => exact ⟨0, by omega, rfl, Since.refl _⟩
  case round =>
    obtain ⟨k, hk, rfl, hs⟩ := hrel
    have hlt : k < l.length := by omega
    obtain ⟨bv, offv, rfl, hbv, hcv⟩ := HV.out.below hs
    obtain ⟨p, hp⟩ : ∃ p, l[k]? = some p := ⟨_, List.getElem?_eq_getElem hlt⟩
    obtain ⟨Ad, cd, q0, q1, q2, q3⟩ := hcv k p.out (by simp [hp])
    have hcw := (hs.cell (p := ⟨b, 3, none⟩) (World.block_lt_of_cell? W ⟨b, 3, none⟩ HC.out)).trans HC.out
    have HS := Lib.hid hs
    by_cases hy : (p.out.toList == o.out.toList) = true
    · have hC := clo245 p.out o.out (.int .i64 6) (.slice Ad 1 cd) b wr true hcw hy
      clear hs hcv q3 hp hy hcw
      go_wp2_with (go_at_call 245; refine hC.mono ?_; rintro e w3 ⟨rfl, hs3⟩)
      first | (rw [Exit.noGoto_ret]) | skip
      go_ret
      exact ⟨⟨k, rfl⟩, HS.out.trans hs3⟩
    · have hne : k ≠ q := by
        rintro rfl
        rw [HQ.out] at hp
        cases hp
        exact hy (by simp)
      have hy' : (p.out.toList == o.out.toList) = false := by simpa using hy
      have hC := clo245 p.out o.out (.int .i64 6) (.slice Ad 1 cd) b wr false hcw hy'
      clear hs hcv q3 hp hy hy' hcw
      go_wp2_with (go_at_call 245; refine hC.mono ?_; rintro e w3 ⟨rfl, hs3⟩)
      go_roundw
      case rel => exact ⟨k + 1, by omega, by go_num, HS.out.trans hs3⟩
      case measure => simp [intOf]; omega
theorem has105b (A : Option Addr) (c : Nat) (l : List Op1) (x : Int) (hl : FlatL l) (b : Nat) (W : World) (q : Nat) (o : Op1) (hq : l[q]? = some o) (hv : VlAt W A (l.map (·.out)) x) (hc : W.cell? ⟨b, 3, none⟩ = some (.string o.out)) :
    Calls Tryz.prog 105 #[.slice A l.length c, .func (.func 245) #[] #[.pointer (some ⟨b, 0, none⟩)]] W fun e W' => e = .returned (.bool true) ∧ Since W W' := by
  have hC := idx186b A c l x hl b W q o hq hv hc
  clear hv hc
  go_enter Tryz.func105, Tryz.ntmps105
  go_wp2_with (go_at_call 186; refine hC.mono ?_; rintro e w3 ⟨⟨j, rfl⟩, hs3⟩; have hj : (0 : Int) ≤ (j : Int) := by omega)
  go_ret
  exact ⟨rfl, hs3⟩
set_option maxHeartbeats 1600000 in
theorem clo340 (v0 v1 v2 v4 : Value) (s : ByteArray) (b : Nat) (W : World) (b2 off2 m c : Nat) (hc : W.cell? ⟨b, 2, none⟩ = some (.slice (some ⟨b2, off2, none⟩) m c)) (h0 : W.cell? ⟨b2, off2, none⟩ = some (.string ⟨#[120]⟩)) (hm : 0 < m) (hs : (s.toList == [120]) = false) :
    Calls Tryz.prog 340 #[.agg #[v0, v1, v2, .string s, v4], .pointer (some ⟨b, 0, none⟩)] W fun e W' => e = .returned (.bool false) ∧ Since W W' := by
  have n1 := World.block_lt_of_cell? W ⟨b, 2, none⟩ hc
  have n2 := World.block_lt_of_cell? W ⟨b2, off2, none⟩ h0
  dsimp only at n1 n2
  have hmm : (0 : Int) < (m : Int) := by omega
  go_enter Tryz.func340, Tryz.ntmps340
  go_wp2_with fail
  go_quiet (fail)
  go_wp2_with fail
  go_ret
  exact ⟨rfl, ((Since.refl W).al _).drN _⟩
set_option maxHeartbeats 1600000 in
/-- No node puts out x. -/
theorem idx108 (A : Option Addr) (c : Nat) (l : List Op1) (hl : FlatL l) (b : Nat) (W : World) (b2 off2 m c2 : Nat) (hv : NdAt W A l) (hc : W.cell? ⟨b, 2, none⟩ = some (.slice (some ⟨b2, off2, none⟩) m c2)) (h0 : W.cell? ⟨b2, off2, none⟩ = some (.string ⟨#[120]⟩)) (hm : 0 < m) :
    Calls Tryz.prog 108 #[.slice A l.length c, .func (.func 340) #[] #[.pointer (some ⟨b, 0, none⟩)]] W fun e W' => e = .returned (.int .i64 (-1)) ∧ Since W W' := by
  have hnl : (l.length : Int) ≤ 5 := by have := hl.most; omega
  have HV := Lib.hid hv
  have HC := Lib.hid hc
  have H0 := Lib.hid h0
  clear hv hc h0
  go_enter Tryz.func108, Tryz.ntmps108
  go_wp2_with fail
  go_loopw [8] (fun i wr => ∃ k : Nat, k ≤ l.length ∧ i = .int .i64 k ∧ Since W wr) (fun i _ => l.length - (intOf i).toNat)
  case atStart => exact ⟨0, by omega, rfl, Since.refl _⟩
  case round =>
    obtain ⟨k, hk, rfl, hs⟩ := hrel
    by_cases hlt : k < l.length
    · obtain ⟨bv, offv, rfl, hbv, hcv⟩ := HV.out.below hs
      obtain ⟨o, ho⟩ : ∃ o, l[k]? = some o := ⟨_, List.getElem?_eq_getElem hlt⟩
      obtain ⟨nm, Ad, cd, q0, q1, q2, q3, q4, q5⟩ := hcv k o ho
      have hC := clo340 (.string o.op) (.string nm) (.slice Ad o.m cd) (.slice none 0 0) o.out b wr b2 off2 m c2 ((hs.cell (p := ⟨b, 2, none⟩) (World.block_lt_of_cell? W ⟨b, 2, none⟩ HC.out)).trans HC.out) ((hs.cell (p := ⟨b2, off2, none⟩) (World.block_lt_of_cell? W ⟨b2, off2, none⟩ H0.out)).trans H0.out) hm (out_toList hl (List.mem_of_getElem? ho))
      have HS := Lib.hid hs
      clear hs hcv q5 ho
      go_wp2_with (go_at_call 340; refine hC.mono ?_; rintro e w3 ⟨rfl, hs3⟩)
      go_roundw
      case rel => exact ⟨k + 1, by omega, by go_num, HS.out.trans hs3⟩
      case measure => simp [intOf]; omega
    · obtain rfl : k = l.length := by omega
      have HS := Lib.hid hs
      clear hs
      go_wp2_with fail
      go_ret
      exact ⟨rfl, HS.out⟩
set_option maxHeartbeats 1600000 in
/-- Nobody works ahead of a node that reads x. -/
theorem ahead_no (p : Nat) (An : Option Addr) (cn : Nat) (l : List Op1) (hl : FlatL l) (W : World) (k : Nat) (o : Op1) (ho : l[k]? = some o) (h1 : W.cell? ⟨p, 1, none⟩ = some (.slice An l.length cn)) (hn : NdAt W An l) :
    Calls Tryz.prog 246 #[.pointer (some ⟨p, 0, none⟩), .int .i64 k] W fun e W' => (∃ nm A c, e = .returned (.tuple #[.agg #[.string o.op, .string nm, .slice A o.m c, .string o.out, .slice none 0 0], .bool false])) ∧ Since W W' := by
  have hkl : k < l.length := (List.getElem?_eq_some_iff.1 ho).1
  have hnl : (l.length : Int) ≤ 5 := by have := hl.most; omega
  have HN := Lib.hid hn
  have np := World.block_lt_of_cell? W ⟨p, 1, none⟩ h1
  dsimp only at np
  obtain ⟨bn, offn, rfl, hbn, hcn⟩ := hn
  obtain ⟨nm, A', c', q0, q1, q2, q3, q4, hx⟩ := hcn k o ho
  obtain ⟨b2, off2, rfl, hb2, hc2⟩ := hx
  have hm := (hl.ops o (List.mem_of_getElem? ho)).cases
  have c0 : W.cell? ⟨b2, off2, none⟩ = some (.string ⟨#[120]⟩) := hc2 0 (by omega)
  have hmi : (0 : Int) < (o.m : Int) := by omega
  have hm0 : ¬ ((o.m : Int) = 0) := by omega
  have C0 := Lib.hid c0
  clear hcn hc2 ho c0
  go_enter Tryz.func246, Tryz.ntmps246
  go_wp2_with fail
  refine newX2 (F := fun W => Calls _ _ _ W _) ?_
  intro w1 h5
  have g1 := h5.b1 rfl
  have hs1 : Since W w1 := h5.below
  refine (idx108 (some ⟨bn, offn, none⟩) cn l hl (W.heap.size + 1) w1 b2 off2 o.m c' (HN.out.below hs1) (cells5 g1).2.2.1 (((hs1.cell (p := ⟨b2, off2, none⟩) (World.block_lt_of_cell? W ⟨b2, off2, none⟩ C0.out))).trans C0.out) (by omega)).mono ?_
  rintro e w2 ⟨rfl, hs2⟩
  have h6 := h5.all hs2
  obtain ⟨r0, r1, r2, r3, r4, -⟩ := cells5 (h6.b1 rfl)
  obtain ⟨y0, y1, y2, y3, y4, f0, f1, f2, f3, f4⟩ := cells5 (h6.b0 rfl)
  have G1 := Lib.hid (h6.b0 rfl)
  have H6 := Lib.hid h6
  clear q0 q1 q2 q3 q4 h5 h6 g1 hs1 hs2
  go_wp2_with fail
  refine put5 (F := fun W2 => bodyPost Tryz.prog Tryz.f246 _ Exit.ret _ W2) G1.out ?_
  intro w9 g9 hk9 hb9 hz9
  refine bodyPost_ret (res_row_tmp rfl _ _ W.heap.size 37 _ (0, 0) _ rfl g9 Tryz.underlying37 rfl (by kernel_rfl)) rfl ?_
  exact ⟨⟨_, _, _, rfl⟩, H6.out.below.trans hb9⟩
set_option maxHeartbeats 1600000 in
theorem reshape_no (p : Nat) (An : Option Addr) (cn : Nat) (l : List Op1) (hl : FlatL l) (W : World) (k : Nat) (o : Op1) (ho : l[k]? = some o) (h1 : W.cell? ⟨p, 1, none⟩ = some (.slice An l.length cn)) (hn : NdAt W An l) :
    Calls Tryz.prog 182 #[.pointer (some ⟨p, 0, none⟩), .int .i64 k] W fun e W' => e = .returned (.bool false) ∧ Since W W' := by
  have hkl : k < l.length := (List.getElem?_eq_some_iff.1 ho).1
  have hnl : (l.length : Int) ≤ 5 := by have := hl.most; omega
  have HN := Lib.hid hn
  have np := World.block_lt_of_cell? W ⟨p, 1, none⟩ h1
  dsimp only at np
  have H1 := Lib.hid h1
  have HO := Lib.hid ho
  obtain ⟨bn, offn, rfl, hbn, hcn⟩ := hn
  obtain ⟨nm, A', c', q0, q1, q2, q3, q4, hx⟩ := hcn k o ho
  clear hcn ho hx
  go_enter Tryz.func182, Tryz.ntmps182
  go_wp2_with fail
  refine newX1 (F := fun W => Calls _ _ _ W _) ?_
  intro w1 h5
  have hs1 : Since W w1 := h5.below
  refine (ahead_no p (some ⟨bn, offn, none⟩) cn l hl w1 k o HO.out ((hs1.cell (p := ⟨p, 1, none⟩) np).trans H1.out) (HN.out.below hs1)).mono ?_
  rintro e w2 ⟨⟨nm2, A2, c2, rfl⟩, hs2⟩
  have HS := Lib.hid (hs1.trans hs2)
  clear q0 q1 q2 q3 q4 h5 hs1 hs2
  go_wp2_with fail
  go_quiet (fail)
  go_wp2_with fail
  go_ret
  exact ⟨rfl, (HS.out.al _).drN _⟩
set_option maxHeartbeats 1600000 in
theorem turn_no (p : Nat) (An : Option Addr) (cn : Nat) (l : List Op1) (hl : FlatL l) (W : World) (k : Nat) (o : Op1) (ho : l[k]? = some o) (h1 : W.cell? ⟨p, 1, none⟩ = some (.slice An l.length cn)) (hn : NdAt W An l) :
    Calls Tryz.prog 181 #[.pointer (some ⟨p, 0, none⟩), .int .i64 k] W fun e W' => e = .returned (.bool false) ∧ Since W W' := by
  have hkl : k < l.length := (List.getElem?_eq_some_iff.1 ho).1
  have hnl : (l.length : Int) ≤ 5 := by have := hl.most; omega
  have HN := Lib.hid hn
  have np := World.block_lt_of_cell? W ⟨p, 1, none⟩ h1
  dsimp only at np
  have H1 := Lib.hid h1
  have HO := Lib.hid ho
  obtain ⟨bn, offn, rfl, hbn, hcn⟩ := hn
  obtain ⟨nm, A', c', q0, q1, q2, q3, q4, hx⟩ := hcn k o ho
  clear hcn ho hx
  go_enter Tryz.func181, Tryz.ntmps181
  go_wp2_with fail
  refine newX1 (F := fun W => Calls _ _ _ W _) ?_
  intro w1 h5
  have hs1 : Since W w1 := h5.below
  refine (ahead_no p (some ⟨bn, offn, none⟩) cn l hl w1 k o HO.out ((hs1.cell (p := ⟨p, 1, none⟩) np).trans H1.out) (HN.out.below hs1)).mono ?_
  rintro e w2 ⟨⟨nm2, A2, c2, rfl⟩, hs2⟩
  have HS := Lib.hid (hs1.trans hs2)
  clear q0 q1 q2 q3 q4 h5 hs1 hs2
  go_wp2_with fail
  go_ret
  exact ⟨rfl, HS.out.al _⟩
set_option maxHeartbeats 1000000 in
theorem ixf_nil191 (f : Value) (w : World) : Calls Tryz.prog 191 #[.slice none 0 0, f] w (fun e w' => e = .returned (.int .i64 (-1)) ∧ w' = w) := by
  go_enter Tryz.func191, Tryz.ntmps191
  go_wp2
  go_loopg [8] 0 (fun g i wr => i = .int .i64 0 ∧ wr = w)
  case atStart => exact ⟨rfl, rfl⟩
  case round =>
    obtain ⟨rfl, rfl⟩ := hrel
    go_wp2
    go_ret
    exact ⟨rfl, rfl⟩
set_option maxHeartbeats 1000000 in
theorem delf_nil395 (f : Value) (w : World) : Calls Tryz.prog 395 #[.slice none 0 0, f] w (fun e w' => e = .returned (.slice none 0 0) ∧ w' = w) := by
  go_enter Tryz.func395, Tryz.ntmps395
  go_wp2_with fail
  refine (ixf_nil191 _ _).mono ?_
  rintro e w' ⟨rfl, rfl⟩
  go_wp2
  go_ret
  exact ⟨rfl, rfl⟩
set_option maxHeartbeats 1000000 in
/-- No attribute of a node lies behind. -/
theorem then_nil (v0 v1 v2 v3 : Value) (w : World) : Calls Tryz.prog 338 #[.agg #[v0, v1, v2, v3, .slice none 0 0]] w (fun e w' => e = .returned (.slice none 0 0) ∧ Since w w') := by
  go_enter Tryz.func338, Tryz.ntmps338
  go_wp2_with fail
  refine (AnyE.slices_Clone_nil lay74 0 0 _).mono ?_
  rintro e w' ⟨rfl, rfl⟩
  go_wp2_with fail
  refine (delf_nil395 _ _).mono ?_
  rintro e w' ⟨rfl, rfl⟩
  go_wp2_with fail
  go_ret
  exact ⟨rfl, (Since.refl w).al _⟩
set_option maxHeartbeats 1600000 in
theorem idle_any (p : Value) (op nm out : ByteArray) (A : Option Addr) (m c : Nat) (h : NdOp op m) (w : World) : Calls Tryz.prog 244 #[p, .agg #[.string op, .string nm, .slice A m c, .string out, .slice none 0 0]] w (fun e w' => (∃ y, e = .returned (.bool y)) ∧ Since w w') := by
  rcases h with ⟨rfl | rfl | rfl, _⟩ | ⟨rfl, _⟩
  all_goals
    go_enter Tryz.func244, Tryz.ntmps244
    go_wp2_with fail
    refine (then_nil _ _ _ _ _).mono ?_
    rintro e w2 ⟨rfl, hs⟩
    have h5 := (fx1 w _).all hs
    obtain ⟨r0, r1, r2, r3, r4, -⟩ := cells5 (h5.b0 rfl)
    have HS := Lib.hid (show Since w w2 from h5.below)
    clear h5 hs
    go_wp2_with fail
    try rw [Exit.noGoto_ret]
    try rw [Exit.noGoto_exit]
    try go_wp2_with fail
    go_ret
    exact ⟨⟨_, rfl⟩, HS.out⟩
set_option maxHeartbeats 1600000 in
theorem leave_no (p : Nat) (An Ao : Option Addr) (cn co : Nat) (l : List Op1) (x : Int) (hl : FlatL l) (W : World) (k : Nat) (o : Op1) (ho : l[k]? = some o) (h1 : W.cell? ⟨p, 1, none⟩ = some (.slice An l.length cn)) (h3 : W.cell? ⟨p, 3, none⟩ = some (.slice Ao l.length co)) (hn : NdAt W An l) (hv : VlAt W Ao (l.map (·.out)) x) :
    Calls Tryz.prog 180 #[.pointer (some ⟨p, 0, none⟩), .int .i64 k] W fun e W' => e = .returned (.bool false) ∧ Since W W' := by
  have hkl : k < l.length := (List.getElem?_eq_some_iff.1 ho).1
  have hnl : (l.length : Int) ≤ 5 := by have := hl.most; omega
  have HV := Lib.hid hv
  have np := World.block_lt_of_cell? W ⟨p, 1, none⟩ h1
  dsimp only at np
  have H3 := Lib.hid h3
  have HO := Lib.hid ho
  obtain ⟨bn, offn, rfl, hbn, hcn⟩ := hn
  obtain ⟨nm, A', c', q0, q1, q2, q3, q4, hx⟩ := hcn k o ho
  have hop := hl.ops o (List.mem_of_getElem? ho)
  clear hcn ho hx hv h3
  go_enter Tryz.func180, Tryz.ntmps180
  go_wp2_with fail
  refine newX1 (F := fun W => Calls _ _ _ W _) ?_
  intro w1 h5
  have hs1 : Since W w1 := h5.below
  refine (idle_any _ _ _ _ _ _ _ hop w1).mono ?_
  rintro e w2 ⟨⟨y, rfl⟩, hs2⟩
  have h6 := h5.all hs2
  have hs6 : Since W w2 := h6.below
  have g3 := (hs6.cell (p := ⟨p, 3, none⟩) np).trans H3.out
  have HC := Lib.hid (has105b Ao co l x hl W.heap.size w2 k o HO.out (HV.out.below hs6) (cells5 (h6.b0 rfl)).2.2.2.1)
  have HS := Lib.hid hs6
  clear q0 q1 q2 q3 q4 h5 h6 hs1 hs2 hs6
  cases y
  · go_wp2_with fail
    go_ret
    exact ⟨rfl, HS.out⟩
  · go_wp2_with fail
    refine HC.out.mono ?_
    rintro e w3 ⟨rfl, hs3⟩
    go_wp2_with fail
    go_ret
    exact ⟨rfl, HS.out.trans hs3⟩
end Go.Proofs.YtbilddeepnnogaaGreatDoor
end
