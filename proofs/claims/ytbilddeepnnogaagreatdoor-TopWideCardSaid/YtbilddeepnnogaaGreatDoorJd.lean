import Derived.Test.YtbilddeepnnogaaGreatDoorJbm
import Derived.RangeFuncBox
import Derived.Maps.AppendAt
set_option linter.unusedVariables false
set_option linter.unusedSimpArgs false
/- Views: Read. -/
set_option linter.unusedVariables false
set_option maxRecDepth 100000
namespace Go.Proofs.YtbilddeepnnogaaGreatDoor
open Go.RowKit Go.Shelf

attribute [local go_sem] Oper.semAt_some

theorem places_made (vs : Array Value) (A1 A2 : Option Addr) (c1 c2 : Nat) (w : World) :
    Calls Tryz.prog 294 #[.agg #[.int .i64 0, .slice A1 1 c1, .slice A2 1 c2]] w fun e w' => e = .returned (.func (.func 363) #[] #[.pointer (some ⟨w.heap.size, 0, none⟩)]) ∧ w' = w.alloc (.cells #[.int .i64 0, .slice A1 1 c1, .slice A2 1 c2] 318) := by
  go_enter Tryz.func294, Tryz.ntmps294
  go_wp2
  go_ret
  exact ⟨rfl, rfl⟩
theorem newX4 {F : World → Prop} {w : World} {a b c d : Obj} (h : ∀ w', Fx w w' [some a, some b, some c, some d] → F w') : F ((((w.alloc a).alloc b).alloc c).alloc d) := h _ (fx4 w a b c d)
theorem Tryz.info2 : (Tryz.prog.info? 2).map (fun i => (i.zero, i.size, i.bytes)) = some (some (.int .i64 0), 1, 8) := by kernel_rfl
theorem stepIn_append {F : Fence} {n : Nat} {P : Program} (w : World) {ops : Array Oper} {o : Oper} {a : Act} {K : Act → World → Prop} {Q : Exit → Act → World → Prop} {E : Prop}
    (hg : o.guard = none) (s x : Operand) (t : TypeId) (hop : o.op = Op.call { callee := Callee.builtin Builtin.append, args := #[s, x], argTypes := #[t, t] })
    (base : Nat) (e : TypeId) (i : TypeInfo) (z : Value) (size bytes : Nat) (h1 : P.underlying t = some (.slice e)) (h2 : P.info? e = some i) (h3 : i.zero = some z) (h4 : i.size = size) (h5 : i.bytes = bytes) (h6 : z.cells.size = size) (h7 : 0 < size)
    (v : Value) (k : Nat) (xs : List Value) (hs : a.eval s = v) (hown : w.ownsRow base e size v k xs) (ad : Addr) (m c : Nat) (news : List Value) (hx : a.eval x = .slice (some ad) m c) (hn : news.length = m * size)
    (hc : ∀ j u, news[j]? = some u → w.cell? (ad.add j) = some u) (h1c : ∀ u ∈ news, u.oneCell' = true) (b1 : k + m ≤ maxLen) (b2 : (k + m) * bytes ≤ 140737488355328) (b3 : base ≤ w.heap.size)
    (hK : ∀ v' w', w'.ownsRow base e size v' (k + m) (xs ++ news) → w.grownBy w' v.ownBlock → K (a.put o.dst v') w') :
    if Region.wanted o (yielded ops a.tmps) = true then Oper.wpIn F n P o a w K Q else E := by
  rw [if_pos (by unfold Region.wanted; rw [hg])]
  obtain ⟨v', w', hrun, r1, r2, r3⟩ := run_append_own (P := P) w base t o.type e i z size bytes h1 h2 h3 h4 h5 h6 h7 v k xs hown ad m c news hn hc h1c b1 b2 b3
  unfold Oper.wpIn
  refine ⟨?_, ?_⟩
  · simp [Oper.about, hop, resolve, Target.leads, Sem.run_pure]
  · rw [Oper.semAt_plain F _ _ (by rw [hop]; intro c hc'; cases hc')]
    simp [execOp, hop, resolve, invoke, builtin, hs, hx, hrun, Result.andThen]
    exact hK v' w' r1 r2
set_option maxHeartbeats 3200000 in
theorem read_any (Ad As At : Option Addr) (cd cs ct x : Nat) (ds : List Int) (w : World) (hd : One w Ad x) (hs : One w As 1) (hn : Nums w At ds) (hl : ds.length = x) (h1 : 1 ≤ x) (h2 : x ≤ 30) :
    Calls Tryz.prog 225 #[.agg #[.int .i64 0, .slice Ad 1 cd, .slice As 1 cs], .slice At x ct] w fun e w' => ∃ g c, e = .returned (.tuple #[.slice (some ⟨g, 0, none⟩) x c, .int .i64 0]) ∧ w.heap.size ≤ g ∧ g < w'.heap.size ∧ x ≤ c ∧ Nums w' (some ⟨g, 0, none⟩) ds ∧ Since w w' := by
  have HD := Lib.hid hd
  have HS := Lib.hid hs
  have HN := Lib.hid hn
  clear hd hs hn
  refine (callsIn_wide (n := 8)).1 ?_
  refine callsIn_of_wp_marks Tryz.func225 rfl trivial ?_ rfl
  simp only [Tryz.ntmps225, List.size_toArray, List.length_cons, List.length_nil, Nat.reduceAdd, Nat.reduceSub, Array.replicate_succ, Array.replicate_zero, List.push_toArray, List.append_toArray, List.nil_append, List.cons_append]
  gi_wp2_with fail
  refine ⟨trivial, ?_⟩
  refine newX4 (F := fun W => CallsIn _ _ _ _ _ W _) ?_
  intro w1 hx
  have HX := Lib.hid hx
  have hF := fine_any Ad As cd cs x 1 w1 (HD.out.below hx.below) (HS.out.below hx.below) (by omega) (by omega) (by omega) (by omega)
  clear hx
  refine (callsIn_wide.2 hF).mono ?_
  rintro e w3 ⟨rfl, hb3⟩
  have hx3 := HX.out.all hb3
  obtain ⟨r0, r1, r2, -⟩ := cells3 (hx3.b0 rfl)
  have zz : w.heap.size + 3 < w3.heap.size := by have := hx3.size; simp only [List.length_cons, List.length_nil] at this; omega
  have z0 : w.heap.size < w3.heap.size := by omega
  have HX3 := Lib.hid hx3
  clear hx3 hb3 hF
  gi_wp2_with fail
  refine ⟨trivial, ?_⟩
  refine (callsIn_wide.2 (places_made #[] Ad As cd cs _)).mono ?_
  rintro e w5 ⟨rfl, rfl⟩
  gi_wp2_with fail
  refine newX2 (F := fun W => Code.wpIn _ _ _ _ _ _ W) ?_
  intro w6 hx6
  obtain ⟨i2, hi2⟩ : ∃ i, Tryz.prog.info? 2 = some i ∧ i.zero = some (.int .i64 0) ∧ i.size = 1 ∧ i.bytes = 8 := by
    obtain ⟨i, h1, h2, h3, h4⟩ := info_parts Tryz.info2
    exact ⟨i, h1, h2, h3, h4⟩
  have HI2 := Lib.hid hi2
  have b06 : Below w.heap.size w w6 := HX3.out.below.trans (hx6.below.mono (by omega))
  have z6 : w3.heap.size + 1 < w6.heap.size := by have := hx6.size; simp only [List.length_cons, List.length_nil] at this; omega
  have hV : VwAt w6 (w3.heap.size + 1) w3.heap.size x := by
    obtain ⟨r0, r1, r2, -⟩ := cells3 (hx6.b1 rfl)
    obtain ⟨d2, f2, rfl, hd2, hc2⟩ := HD.out
    obtain ⟨d3, f3, rfl, hd3, hc3⟩ := HS.out
    exact ⟨d2, f2, d3, f3, cd, cs, r0, r1, r2, (b06.cell (p := ⟨d2, f2, none⟩) hd2).trans hc2, (b06.cell (p := ⟨d3, f3, none⟩) hd3).trans hc3, by omega, by omega, by omega, by omega, by omega, by omega⟩
  have g1 := hx6.b0 rfl
  have g2 := (hx6.below.block _ (by omega)).trans (HX3.out.b1 rfl)
  have g3 := (hx6.below.block _ (by omega)).trans (HX3.out.b2 rfl)
  have g4 := (hx6.below.block _ (by omega)).trans (HX3.out.b3 rfl)
  have HG := Lib.hid (And.intro g1 (And.intro g2 (And.intro g3 g4)))
  clear hx6 g1 g2 g3 g4 r0 r1 r2 hi2
  generalize hG : w3.heap.size = g6 at *
  generalize hS0 : w.heap.size = s0 at *
  generalize hS6 : w6.heap.size = s6 at *
  refine wpIn_places (by omega) (q := g6 + 1) (g6 := g6) h1 h2 rfl hV (by omega) rfl
    (fun k W => ∃ v, Boxed W g6 22 v ∧ W.ownsRow (s6 + 3) 2 1 v k ((ds.take k).map (Value.int .i64)) ∧ Boxed W (s0 + 1) 22 (.slice At x ct) ∧ Boxed W (s0 + 1 + 1) 22 (.slice none 0 0) ∧ Boxed W (s0 + 1 + 1 + 1) 39 (.int .i64 0) ∧ Below s0 w W)
    ?_ ?_ (fun k => { tmps := #[.agg #[.int .i64 0, .slice Ad 1 cd, .slice As 1 cs], .slice At x ct, .pointer (some ⟨s0, 0, none⟩), .pointer (some ⟨s0 + 1, 0, none⟩), .pointer (some ⟨s0 + 1 + 1, 0, none⟩), .pointer (some ⟨s0 + 1 + 1 + 1, 0, none⟩), .pointer (some ⟨g6, 0, none⟩), .int .i64 k, .agg #[.int .i64 0, .slice Ad 1 cd, .slice As 1 cs], .bool true, .bool false, .agg #[.int .i64 0, .slice Ad 1 cd, .slice As 1 cs], .func (.func 363) #[] #[.pointer (some ⟨g6 + 1, 0, none⟩)], .int .i64 k, undef, undef, undef, undef, undef, undef, undef, undef, undef, undef, undef, undef], defers := [] }) ?_ ?_ ?_
  · rintro k A A' row ⟨v, hv, hr, ha, hb, hc, hbl⟩ hg hrow
    rw [hS6] at hrow
    have hne : ∀ b, b < s6 → some b ≠ row := fun b hb e => by have := hrow b e.symm; omega
    refine ⟨v, hv.kept hg (hne _ (by omega)), hr.kept hg ?_, ha.kept hg (hne _ (by omega)), hb.kept hg (hne _ (by omega)), hc.kept hg (hne _ (by omega)), hbl.grown hg (by have := hbl.size; omega) (fun k e => by have := hrow k e; omega)⟩
    rcases hr.2 with ⟨rfl, _⟩ | ⟨g, cap, cur, rfl, hbg, hgb, _⟩
    · exact .inl rfl
    · refine .inr fun e => ?_
      have := hrow g e.symm
      omega
  · exact ⟨_, HG.out.1, by simpa using World.ownsRow_nil w6 (s6 + 3) 2 1, HG.out.2.1, HG.out.2.2.1, HG.out.2.2.2, b06⟩
  · intro l k W K hK
    gi_wp2
    exact hK
  · rintro l k W ⟨v, hv, hr, ha, hb', hc, hbl⟩ hk hlt
    rw [hS6] at hlt ⊢
    have hsw : Since w W := by subst hS0; exact hbl
    obtain ⟨d, hd⟩ : ∃ d, ds[k]? = some d := ⟨_, List.getElem?_eq_getElem (by omega)⟩
    obtain ⟨ab, af, rfl, c0⟩ := HN.out.since hsw k d hd
    have cv := hv.cell
    have fv := hv.frozen
    have ca := ha.cell
    have hki : (k : Int) < x := by omega
    have hxi : (x : Int) ≤ 30 := by omega
    have hmx : Tryz.prog.follows .mixedOrders = true := by kernel_rfl
    have hrd : (W.drew.alloc (.cells #[.int .i64 d] 2)).ownsRow (s6 + 3) 2 1 v k ((ds.take k).map (Value.int .i64)) := row_keep hr (fun j hj => by
      refine (below_new W.drew _).block j ?_
      rcases hr.2 with ⟨rfl, _⟩ | ⟨g, cap, cur, rfl, hbg, hgb, _⟩
      · cases hj
      · cases hj
        exact (Array.getElem?_eq_some_iff.1 hgb).1)
    have hnew : ∀ (j : Nat) (u : Value), ([.int .i64 d] : List Value)[j]? = some u → (W.drew.alloc (.cells #[.int .i64 d] 2)).cell? (Addr.add ⟨W.drew.heap.size, 0, none⟩ j) = some u := by
      intro j u hj
      cases j with
      | zero => cases hj; exact cell_of_row _ _ 0 _ 2 (0, 0) (heap_alloc_new W.drew _)
      | succ j => cases hj
    have hlo := hr.lt
    have hg6 : g6 < W.heap.size := hv.lt
    have hkp : ∀ (v' : Value) (w' : World), (W.drew.alloc (.cells #[.int .i64 d] 2)).grownBy w' v.ownBlock → ∀ j, j ≤ s6 + 2 → w'.heap[j]? = W.heap[j]? := fun v' w' q2 j hj =>
      (q2.block j (by rw [World.size_alloc]; show j < W.heap.size + 1; omega) (fun e => by have := (hlo j e.symm).1; omega)).trans (Below.heap_alloc W.drew _ _ (by show j < W.heap.size; omega))
    have hbox : ∀ (v' : Value) (w' : World), w'.ownsRow (s6 + 3) 2 1 v' (k + 1) ((ds.take k).map (Value.int .i64) ++ [.int .i64 d]) → (W.drew.alloc (.cells #[.int .i64 d] 2)).grownBy w' v.ownBlock → w'.cell? ⟨g6, 0, none⟩ = some v ∧ w'.frozen? ⟨g6, 0, none⟩ = false := fun v' w' q1 q2 =>
      have hb : Boxed w' g6 22 v := (hkp v' w' q2 g6 (by omega)).trans hv
      ⟨hb.cell, hb.frozen⟩
    have hfin : ∀ (v' : Value) (w' : World), w'.ownsRow (s6 + 3) 2 1 v' (k + 1) ((ds.take k).map (Value.int .i64) ++ [.int .i64 d]) → (W.drew.alloc (.cells #[.int .i64 d] 2)).grownBy w' v.ownBlock →
        Exit.normal = Exit.normal ∧ (∃ v, Boxed (w'.setCell ⟨g6, 0, none⟩ v') g6 22 v ∧ (w'.setCell ⟨g6, 0, none⟩ v').ownsRow (s6 + 3) 2 1 v (k + 1) ((ds.take (k + 1)).map (Value.int .i64)) ∧ Boxed (w'.setCell ⟨g6, 0, none⟩ v') (s0 + 1) 22 (.slice (some ⟨ab, af, none⟩) x ct) ∧ Boxed (w'.setCell ⟨g6, 0, none⟩ v') (s0 + 1 + 1) 22 (.slice none 0 0) ∧ Boxed (w'.setCell ⟨g6, 0, none⟩ v') (s0 + 1 + 1 + 1) 39 (.int .i64 0) ∧ Below s0 w (w'.setCell ⟨g6, 0, none⟩ v')) ∧ (∀ j, j ≤ s6 + 2 → j ≠ g6 → (w'.setCell ⟨g6, 0, none⟩ v').heap[j]? = W.heap[j]?) ∧ W.heap.size ≤ (w'.setCell ⟨g6, 0, none⟩ v').heap.size := by
      intro v' w' q1 q2
      have hk2 : ∀ j, j ≤ s6 + 2 → j ≠ g6 → (w'.setCell ⟨g6, 0, none⟩ v').heap[j]? = W.heap[j]? := fun j hj hn => (Below.heap_setCell _ _ _ _ hn).trans (hkp v' w' q2 j hj)
      have hb : Boxed w' g6 22 v := (hkp v' w' q2 g6 (by omega)).trans hv
      refine ⟨rfl, ⟨v', hb.set v', ?_, (hk2 _ (by omega) (by omega)).trans ha, (hk2 _ (by omega) (by omega)).trans hb', (hk2 _ (by omega) (by omega)).trans hc, ?_⟩, hk2, ?_⟩
      · rw [List.take_add_one, hd, Option.toList_some, List.map_append]
        exact q1.kept (grownBy_setCell' w' g6 v') (.inr fun e => by have := (q1.lt g6 e).1; omega)
      · exact (((hbl.drew).alloc (by show s0 ≤ W.heap.size; omega) _).grown q2 (by rw [World.size_alloc]; show s0 ≤ W.heap.size + 1; omega) (fun k e => by have := (hlo k e).1; omega)).setCell (by show s0 ≤ g6; omega) _
      · have h5 := q2.size
        rw [World.size_alloc] at h5
        have h6 : W.heap.size + 1 ≤ w'.heap.size := h5
        simp [World.setCell]
        omega
    have hone : ∀ u ∈ ([.int .i64 d] : List Value), u.oneCell' = true := by simp [Value.oneCell']
    have hmax : k + 1 ≤ maxLen := by unfold maxLen; omega
    have hby : (k + 1) * 8 ≤ 140737488355328 := by omega
    have hba : s6 + 3 ≤ (W.drew.alloc (.cells #[.int .i64 d] 2)).heap.size := by rw [World.size_alloc]; show s6 + 3 ≤ W.heap.size + 1; omega
    have HHV := Lib.hid (And.intro hr (And.intro hv (And.intro hbl hlo)))
    clear hr hv hbl hlo hb' ha hc
    gi_wp2
    refine wpIn_region_any (by assumption) ?_
    change wpAnyIn _ _ _ _ _ _ _ _ _ (World.drew _)
    refine wpAnyIn_ready (rs := [0, 1, 2]) (by kernel_rfl) (by simp) ?_
    refine AllReadyIn.cons rfl (fun K hK => ?_) ?_
    go_simp
    refine hK _ _ ?_
    clear hK K
    refine wpAnyIn_ready (rs := [1, 2]) (by kernel_rfl) (by simp) ?_
    refine AllReadyIn.cons rfl (fun K hK => ?_) ?_
    go_simp
    refine hK _ _ ?_
    clear hK K
    refine wpAnyIn_ready (rs := [2]) (by kernel_rfl) (by simp) ?_
    refine AllReadyIn.cons rfl (fun K hK => ?_) ?_
    go_simp
    refine hK _ _ ?_
    clear hK K
    refine wpAnyIn_ready (rs := [3]) (by kernel_rfl) (by simp) ?_
    refine AllReadyIn.cons rfl (fun K hK => ?_) ?_
    go_simp
    refine hK _ _ ?_
    clear hK K
    refine wpAnyIn_ready (rs := [4]) (by kernel_rfl) (by simp) ?_
    refine AllReadyIn.cons rfl (fun K hK => ?_) ?_
    go_simp
    refine hK _ _ ?_
    clear hK K
    refine wpAnyIn_ready (rs := [5]) (by kernel_rfl) (by simp) ?_
    refine AllReadyIn.cons rfl (fun K hK => ?_) ?_
    go_simp
    refine hK _ _ ?_
    clear hK K
    refine wpAnyIn_ready (rs := [6]) (by kernel_rfl) (by simp) ?_
    refine AllReadyIn.cons rfl (fun K hK => ?_) ?_
    refine stepIn_append _ rfl (.tmp 18) (.tmp 23) 22 rfl (s6 + 3) 2 i2 (.int .i64 0) 1 8 Tryz.underlying22 HI2.out.1 HI2.out.2.1 HI2.out.2.2.1 HI2.out.2.2.2 rfl (by decide) v k ((ds.take k).map (Value.int .i64)) rfl hrd ⟨W.drew.heap.size, 0, none⟩ 1 1 [.int .i64 d] rfl rfl hnew hone hmax hby hba ?_
    intro v' w' q1 q2
    obtain ⟨cw, fw⟩ := hbox _ _ q1 q2
    have hf := hfin _ _ q1 q2
    obtain ⟨g', cap', ev⟩ := ownsRow_succ q1
    subst ev
    clear q1 q2
    refine hK _ _ ?_
    clear hK K
    refine wpAnyIn_ready (rs := [7]) (by kernel_rfl) (by simp) ?_
    refine AllReadyIn.cons rfl (fun K hK => ?_) ?_
    go_simp
    refine hK _ _ ?_
    clear hK K
    refine wpAnyIn_done (by kernel_rfl) ?_ _
    gi_wp2
    simpa using hf
    exact AllReadyIn.nil
    exact AllReadyIn.nil
    exact AllReadyIn.nil
    exact AllReadyIn.nil
    exact AllReadyIn.nil
    exact AllReadyIn.nil
    refine AllReadyIn.cons rfl (fun K hK => ?_) ?_
    go_simp
    refine hK _ _ ?_
    clear hK K
    refine wpAnyIn_ready (rs := [1]) (by kernel_rfl) (by simp) ?_
    refine AllReadyIn.cons rfl (fun K hK => ?_) ?_
    go_simp
    refine hK _ _ ?_
    clear hK K
    refine wpAnyIn_ready (rs := [3]) (by kernel_rfl) (by simp) ?_
    refine AllReadyIn.cons rfl (fun K hK => ?_) ?_
    go_simp
    refine hK _ _ ?_
    clear hK K
    refine wpAnyIn_ready (rs := [4]) (by kernel_rfl) (by simp) ?_
    refine AllReadyIn.cons rfl (fun K hK => ?_) ?_
    go_simp
    refine hK _ _ ?_
    clear hK K
    refine wpAnyIn_ready (rs := [5]) (by kernel_rfl) (by simp) ?_
    refine AllReadyIn.cons rfl (fun K hK => ?_) ?_
    go_simp
    refine hK _ _ ?_
    clear hK K
    refine wpAnyIn_ready (rs := [6]) (by kernel_rfl) (by simp) ?_
    refine AllReadyIn.cons rfl (fun K hK => ?_) ?_
    refine stepIn_append _ rfl (.tmp 18) (.tmp 23) 22 rfl (s6 + 3) 2 i2 (.int .i64 0) 1 8 Tryz.underlying22 HI2.out.1 HI2.out.2.1 HI2.out.2.2.1 HI2.out.2.2.2 rfl (by decide) v k ((ds.take k).map (Value.int .i64)) rfl hrd ⟨W.drew.heap.size, 0, none⟩ 1 1 [.int .i64 d] rfl rfl hnew hone hmax hby hba ?_
    intro v' w' q1 q2
    obtain ⟨cw, fw⟩ := hbox _ _ q1 q2
    have hf := hfin _ _ q1 q2
    obtain ⟨g', cap', ev⟩ := ownsRow_succ q1
    subst ev
    clear q1 q2
    refine hK _ _ ?_
    clear hK K
    refine wpAnyIn_ready (rs := [7]) (by kernel_rfl) (by simp) ?_
    refine AllReadyIn.cons rfl (fun K hK => ?_) ?_
    go_simp
    refine hK _ _ ?_
    clear hK K
    refine wpAnyIn_done (by kernel_rfl) ?_ _
    gi_wp2
    simpa using hf
    exact AllReadyIn.nil
    exact AllReadyIn.nil
    exact AllReadyIn.nil
    exact AllReadyIn.nil
    exact AllReadyIn.nil
    exact AllReadyIn.nil
    exact AllReadyIn.nil
    refine AllReadyIn.cons rfl (fun K hK => ?_) ?_
    go_simp
    refine hK _ _ ?_
    clear hK K
    refine wpAnyIn_ready (rs := [0, 2]) (by kernel_rfl) (by simp) ?_
    refine AllReadyIn.cons rfl (fun K hK => ?_) ?_
    go_simp
    refine hK _ _ ?_
    clear hK K
    refine wpAnyIn_ready (rs := [2]) (by kernel_rfl) (by simp) ?_
    refine AllReadyIn.cons rfl (fun K hK => ?_) ?_
    go_simp
    refine hK _ _ ?_
    clear hK K
    refine wpAnyIn_ready (rs := [3]) (by kernel_rfl) (by simp) ?_
    refine AllReadyIn.cons rfl (fun K hK => ?_) ?_
    go_simp
    refine hK _ _ ?_
    clear hK K
    refine wpAnyIn_ready (rs := [4]) (by kernel_rfl) (by simp) ?_
    refine AllReadyIn.cons rfl (fun K hK => ?_) ?_
    go_simp
    refine hK _ _ ?_
    clear hK K
    refine wpAnyIn_ready (rs := [5]) (by kernel_rfl) (by simp) ?_
    refine AllReadyIn.cons rfl (fun K hK => ?_) ?_
    go_simp
    refine hK _ _ ?_
    clear hK K
    refine wpAnyIn_ready (rs := [6]) (by kernel_rfl) (by simp) ?_
    refine AllReadyIn.cons rfl (fun K hK => ?_) ?_
    refine stepIn_append _ rfl (.tmp 18) (.tmp 23) 22 rfl (s6 + 3) 2 i2 (.int .i64 0) 1 8 Tryz.underlying22 HI2.out.1 HI2.out.2.1 HI2.out.2.2.1 HI2.out.2.2.2 rfl (by decide) v k ((ds.take k).map (Value.int .i64)) rfl hrd ⟨W.drew.heap.size, 0, none⟩ 1 1 [.int .i64 d] rfl rfl hnew hone hmax hby hba ?_
    intro v' w' q1 q2
    obtain ⟨cw, fw⟩ := hbox _ _ q1 q2
    have hf := hfin _ _ q1 q2
    obtain ⟨g', cap', ev⟩ := ownsRow_succ q1
    subst ev
    clear q1 q2
    refine hK _ _ ?_
    clear hK K
    refine wpAnyIn_ready (rs := [7]) (by kernel_rfl) (by simp) ?_
    refine AllReadyIn.cons rfl (fun K hK => ?_) ?_
    go_simp
    refine hK _ _ ?_
    clear hK K
    refine wpAnyIn_done (by kernel_rfl) ?_ _
    gi_wp2
    simpa using hf
    exact AllReadyIn.nil
    exact AllReadyIn.nil
    exact AllReadyIn.nil
    exact AllReadyIn.nil
    exact AllReadyIn.nil
    exact AllReadyIn.nil
    refine AllReadyIn.cons rfl (fun K hK => ?_) ?_
    go_simp
    refine hK _ _ ?_
    clear hK K
    refine wpAnyIn_ready (rs := [0, 3]) (by kernel_rfl) (by simp) ?_
    refine AllReadyIn.cons rfl (fun K hK => ?_) ?_
    go_simp
    refine hK _ _ ?_
    clear hK K
    refine wpAnyIn_ready (rs := [3]) (by kernel_rfl) (by simp) ?_
    refine AllReadyIn.cons rfl (fun K hK => ?_) ?_
    go_simp
    refine hK _ _ ?_
    clear hK K
    refine wpAnyIn_ready (rs := [4]) (by kernel_rfl) (by simp) ?_
    refine AllReadyIn.cons rfl (fun K hK => ?_) ?_
    go_simp
    refine hK _ _ ?_
    clear hK K
    refine wpAnyIn_ready (rs := [5]) (by kernel_rfl) (by simp) ?_
    refine AllReadyIn.cons rfl (fun K hK => ?_) ?_
    go_simp
    refine hK _ _ ?_
    clear hK K
    refine wpAnyIn_ready (rs := [6]) (by kernel_rfl) (by simp) ?_
    refine AllReadyIn.cons rfl (fun K hK => ?_) ?_
    refine stepIn_append _ rfl (.tmp 18) (.tmp 23) 22 rfl (s6 + 3) 2 i2 (.int .i64 0) 1 8 Tryz.underlying22 HI2.out.1 HI2.out.2.1 HI2.out.2.2.1 HI2.out.2.2.2 rfl (by decide) v k ((ds.take k).map (Value.int .i64)) rfl hrd ⟨W.drew.heap.size, 0, none⟩ 1 1 [.int .i64 d] rfl rfl hnew hone hmax hby hba ?_
    intro v' w' q1 q2
    obtain ⟨cw, fw⟩ := hbox _ _ q1 q2
    have hf := hfin _ _ q1 q2
    obtain ⟨g', cap', ev⟩ := ownsRow_succ q1
    subst ev
    clear q1 q2
    refine hK _ _ ?_
    clear hK K
    refine wpAnyIn_ready (rs := [7]) (by kernel_rfl) (by simp) ?_
    refine AllReadyIn.cons rfl (fun K hK => ?_) ?_
    go_simp
    refine hK _ _ ?_
    clear hK K
    refine wpAnyIn_done (by kernel_rfl) ?_ _
    gi_wp2
    simpa using hf
    exact AllReadyIn.nil
    exact AllReadyIn.nil
    exact AllReadyIn.nil
    exact AllReadyIn.nil
    exact AllReadyIn.nil
    refine AllReadyIn.cons rfl (fun K hK => ?_) ?_
    go_simp
    refine hK _ _ ?_
    clear hK K
    refine wpAnyIn_ready (rs := [0, 4]) (by kernel_rfl) (by simp) ?_
    refine AllReadyIn.cons rfl (fun K hK => ?_) ?_
    go_simp
    refine hK _ _ ?_
    clear hK K
    refine wpAnyIn_ready (rs := [4]) (by kernel_rfl) (by simp) ?_
    refine AllReadyIn.cons rfl (fun K hK => ?_) ?_
    go_simp
    refine hK _ _ ?_
    clear hK K
    refine wpAnyIn_ready (rs := [5]) (by kernel_rfl) (by simp) ?_
    refine AllReadyIn.cons rfl (fun K hK => ?_) ?_
    go_simp
    refine hK _ _ ?_
    clear hK K
    refine wpAnyIn_ready (rs := [6]) (by kernel_rfl) (by simp) ?_
    refine AllReadyIn.cons rfl (fun K hK => ?_) ?_
    refine stepIn_append _ rfl (.tmp 18) (.tmp 23) 22 rfl (s6 + 3) 2 i2 (.int .i64 0) 1 8 Tryz.underlying22 HI2.out.1 HI2.out.2.1 HI2.out.2.2.1 HI2.out.2.2.2 rfl (by decide) v k ((ds.take k).map (Value.int .i64)) rfl hrd ⟨W.drew.heap.size, 0, none⟩ 1 1 [.int .i64 d] rfl rfl hnew hone hmax hby hba ?_
    intro v' w' q1 q2
    obtain ⟨cw, fw⟩ := hbox _ _ q1 q2
    have hf := hfin _ _ q1 q2
    obtain ⟨g', cap', ev⟩ := ownsRow_succ q1
    subst ev
    clear q1 q2
    refine hK _ _ ?_
    clear hK K
    refine wpAnyIn_ready (rs := [7]) (by kernel_rfl) (by simp) ?_
    refine AllReadyIn.cons rfl (fun K hK => ?_) ?_
    go_simp
    refine hK _ _ ?_
    clear hK K
    refine wpAnyIn_done (by kernel_rfl) ?_ _
    gi_wp2
    simpa using hf
    exact AllReadyIn.nil
    exact AllReadyIn.nil
    exact AllReadyIn.nil
    exact AllReadyIn.nil
    refine AllReadyIn.cons rfl (fun K hK => ?_) ?_
    go_simp
    refine hK _ _ ?_
    clear hK K
    refine wpAnyIn_ready (rs := [0, 5]) (by kernel_rfl) (by simp) ?_
    refine AllReadyIn.cons rfl (fun K hK => ?_) ?_
    go_simp
    refine hK _ _ ?_
    clear hK K
    refine wpAnyIn_ready (rs := [5]) (by kernel_rfl) (by simp) ?_
    refine AllReadyIn.cons rfl (fun K hK => ?_) ?_
    go_simp
    refine hK _ _ ?_
    clear hK K
    refine wpAnyIn_ready (rs := [6]) (by kernel_rfl) (by simp) ?_
    refine AllReadyIn.cons rfl (fun K hK => ?_) ?_
    refine stepIn_append _ rfl (.tmp 18) (.tmp 23) 22 rfl (s6 + 3) 2 i2 (.int .i64 0) 1 8 Tryz.underlying22 HI2.out.1 HI2.out.2.1 HI2.out.2.2.1 HI2.out.2.2.2 rfl (by decide) v k ((ds.take k).map (Value.int .i64)) rfl hrd ⟨W.drew.heap.size, 0, none⟩ 1 1 [.int .i64 d] rfl rfl hnew hone hmax hby hba ?_
    intro v' w' q1 q2
    obtain ⟨cw, fw⟩ := hbox _ _ q1 q2
    have hf := hfin _ _ q1 q2
    obtain ⟨g', cap', ev⟩ := ownsRow_succ q1
    subst ev
    clear q1 q2
    refine hK _ _ ?_
    clear hK K
    refine wpAnyIn_ready (rs := [7]) (by kernel_rfl) (by simp) ?_
    refine AllReadyIn.cons rfl (fun K hK => ?_) ?_
    go_simp
    refine hK _ _ ?_
    clear hK K
    refine wpAnyIn_done (by kernel_rfl) ?_ _
    gi_wp2
    simpa using hf
    exact AllReadyIn.nil
    exact AllReadyIn.nil
    exact AllReadyIn.nil
    refine AllReadyIn.cons rfl (fun K hK => ?_) ?_
    go_simp
    refine hK _ _ ?_
    clear hK K
    refine wpAnyIn_ready (rs := [0]) (by kernel_rfl) (by simp) ?_
    refine AllReadyIn.cons rfl (fun K hK => ?_) ?_
    go_simp
    refine hK _ _ ?_
    clear hK K
    refine wpAnyIn_ready (rs := [6]) (by kernel_rfl) (by simp) ?_
    refine AllReadyIn.cons rfl (fun K hK => ?_) ?_
    refine stepIn_append _ rfl (.tmp 18) (.tmp 23) 22 rfl (s6 + 3) 2 i2 (.int .i64 0) 1 8 Tryz.underlying22 HI2.out.1 HI2.out.2.1 HI2.out.2.2.1 HI2.out.2.2.2 rfl (by decide) v k ((ds.take k).map (Value.int .i64)) rfl hrd ⟨W.drew.heap.size, 0, none⟩ 1 1 [.int .i64 d] rfl rfl hnew hone hmax hby hba ?_
    intro v' w' q1 q2
    obtain ⟨cw, fw⟩ := hbox _ _ q1 q2
    have hf := hfin _ _ q1 q2
    obtain ⟨g', cap', ev⟩ := ownsRow_succ q1
    subst ev
    clear q1 q2
    refine hK _ _ ?_
    clear hK K
    refine wpAnyIn_ready (rs := [7]) (by kernel_rfl) (by simp) ?_
    refine AllReadyIn.cons rfl (fun K hK => ?_) ?_
    go_simp
    refine hK _ _ ?_
    clear hK K
    refine wpAnyIn_done (by kernel_rfl) ?_ _
    gi_wp2
    simpa using hf
    exact AllReadyIn.nil
    exact AllReadyIn.nil
    exact AllReadyIn.nil
    exact AllReadyIn.nil
    exact AllReadyIn.nil
    exact AllReadyIn.nil
    exact AllReadyIn.nil
    refine AllReadyIn.cons rfl (fun K hK => ?_) ?_
    go_simp
    refine hK _ _ ?_
    clear hK K
    refine wpAnyIn_ready (rs := [0, 1]) (by kernel_rfl) (by simp) ?_
    refine AllReadyIn.cons rfl (fun K hK => ?_) ?_
    go_simp
    refine hK _ _ ?_
    clear hK K
    refine wpAnyIn_ready (rs := [1]) (by kernel_rfl) (by simp) ?_
    refine AllReadyIn.cons rfl (fun K hK => ?_) ?_
    go_simp
    refine hK _ _ ?_
    clear hK K
    refine wpAnyIn_ready (rs := [3]) (by kernel_rfl) (by simp) ?_
    refine AllReadyIn.cons rfl (fun K hK => ?_) ?_
    go_simp
    refine hK _ _ ?_
    clear hK K
    refine wpAnyIn_ready (rs := [4]) (by kernel_rfl) (by simp) ?_
    refine AllReadyIn.cons rfl (fun K hK => ?_) ?_
    go_simp
    refine hK _ _ ?_
    clear hK K
    refine wpAnyIn_ready (rs := [5]) (by kernel_rfl) (by simp) ?_
    refine AllReadyIn.cons rfl (fun K hK => ?_) ?_
    go_simp
    refine hK _ _ ?_
    clear hK K
    refine wpAnyIn_ready (rs := [6]) (by kernel_rfl) (by simp) ?_
    refine AllReadyIn.cons rfl (fun K hK => ?_) ?_
    refine stepIn_append _ rfl (.tmp 18) (.tmp 23) 22 rfl (s6 + 3) 2 i2 (.int .i64 0) 1 8 Tryz.underlying22 HI2.out.1 HI2.out.2.1 HI2.out.2.2.1 HI2.out.2.2.2 rfl (by decide) v k ((ds.take k).map (Value.int .i64)) rfl hrd ⟨W.drew.heap.size, 0, none⟩ 1 1 [.int .i64 d] rfl rfl hnew hone hmax hby hba ?_
    intro v' w' q1 q2
    obtain ⟨cw, fw⟩ := hbox _ _ q1 q2
    have hf := hfin _ _ q1 q2
    obtain ⟨g', cap', ev⟩ := ownsRow_succ q1
    subst ev
    clear q1 q2
    refine hK _ _ ?_
    clear hK K
    refine wpAnyIn_ready (rs := [7]) (by kernel_rfl) (by simp) ?_
    refine AllReadyIn.cons rfl (fun K hK => ?_) ?_
    go_simp
    refine hK _ _ ?_
    clear hK K
    refine wpAnyIn_done (by kernel_rfl) ?_ _
    gi_wp2
    simpa using hf
    exact AllReadyIn.nil
    exact AllReadyIn.nil
    exact AllReadyIn.nil
    exact AllReadyIn.nil
    exact AllReadyIn.nil
    exact AllReadyIn.nil
    refine AllReadyIn.cons rfl (fun K hK => ?_) ?_
    go_simp
    refine hK _ _ ?_
    clear hK K
    refine wpAnyIn_ready (rs := [0, 3]) (by kernel_rfl) (by simp) ?_
    refine AllReadyIn.cons rfl (fun K hK => ?_) ?_
    go_simp
    refine hK _ _ ?_
    clear hK K
    refine wpAnyIn_ready (rs := [3]) (by kernel_rfl) (by simp) ?_
    refine AllReadyIn.cons rfl (fun K hK => ?_) ?_
    go_simp
    refine hK _ _ ?_
    clear hK K
    refine wpAnyIn_ready (rs := [4]) (by kernel_rfl) (by simp) ?_
    refine AllReadyIn.cons rfl (fun K hK => ?_) ?_
    go_simp
    refine hK _ _ ?_
    clear hK K
    refine wpAnyIn_ready (rs := [5]) (by kernel_rfl) (by simp) ?_
    refine AllReadyIn.cons rfl (fun K hK => ?_) ?_
    go_simp
    refine hK _ _ ?_
    clear hK K
    refine wpAnyIn_ready (rs := [6]) (by kernel_rfl) (by simp) ?_
    refine AllReadyIn.cons rfl (fun K hK => ?_) ?_
    refine stepIn_append _ rfl (.tmp 18) (.tmp 23) 22 rfl (s6 + 3) 2 i2 (.int .i64 0) 1 8 Tryz.underlying22 HI2.out.1 HI2.out.2.1 HI2.out.2.2.1 HI2.out.2.2.2 rfl (by decide) v k ((ds.take k).map (Value.int .i64)) rfl hrd ⟨W.drew.heap.size, 0, none⟩ 1 1 [.int .i64 d] rfl rfl hnew hone hmax hby hba ?_
    intro v' w' q1 q2
    obtain ⟨cw, fw⟩ := hbox _ _ q1 q2
    have hf := hfin _ _ q1 q2
    obtain ⟨g', cap', ev⟩ := ownsRow_succ q1
    subst ev
    clear q1 q2
    refine hK _ _ ?_
    clear hK K
    refine wpAnyIn_ready (rs := [7]) (by kernel_rfl) (by simp) ?_
    refine AllReadyIn.cons rfl (fun K hK => ?_) ?_
    go_simp
    refine hK _ _ ?_
    clear hK K
    refine wpAnyIn_done (by kernel_rfl) ?_ _
    gi_wp2
    simpa using hf
    exact AllReadyIn.nil
    exact AllReadyIn.nil
    exact AllReadyIn.nil
    exact AllReadyIn.nil
    exact AllReadyIn.nil
    refine AllReadyIn.cons rfl (fun K hK => ?_) ?_
    go_simp
    refine hK _ _ ?_
    clear hK K
    refine wpAnyIn_ready (rs := [0, 4]) (by kernel_rfl) (by simp) ?_
    refine AllReadyIn.cons rfl (fun K hK => ?_) ?_
    go_simp
    refine hK _ _ ?_
    clear hK K
    refine wpAnyIn_ready (rs := [4]) (by kernel_rfl) (by simp) ?_
    refine AllReadyIn.cons rfl (fun K hK => ?_) ?_
    go_simp
    refine hK _ _ ?_
    clear hK K
    refine wpAnyIn_ready (rs := [5]) (by kernel_rfl) (by simp) ?_
    refine AllReadyIn.cons rfl (fun K hK => ?_) ?_
    go_simp
    refine hK _ _ ?_
    clear hK K
    refine wpAnyIn_ready (rs := [6]) (by kernel_rfl) (by simp) ?_
    refine AllReadyIn.cons rfl (fun K hK => ?_) ?_
    refine stepIn_append _ rfl (.tmp 18) (.tmp 23) 22 rfl (s6 + 3) 2 i2 (.int .i64 0) 1 8 Tryz.underlying22 HI2.out.1 HI2.out.2.1 HI2.out.2.2.1 HI2.out.2.2.2 rfl (by decide) v k ((ds.take k).map (Value.int .i64)) rfl hrd ⟨W.drew.heap.size, 0, none⟩ 1 1 [.int .i64 d] rfl rfl hnew hone hmax hby hba ?_
    intro v' w' q1 q2
    obtain ⟨cw, fw⟩ := hbox _ _ q1 q2
    have hf := hfin _ _ q1 q2
    obtain ⟨g', cap', ev⟩ := ownsRow_succ q1
    subst ev
    clear q1 q2
    refine hK _ _ ?_
    clear hK K
    refine wpAnyIn_ready (rs := [7]) (by kernel_rfl) (by simp) ?_
    refine AllReadyIn.cons rfl (fun K hK => ?_) ?_
    go_simp
    refine hK _ _ ?_
    clear hK K
    refine wpAnyIn_done (by kernel_rfl) ?_ _
    gi_wp2
    simpa using hf
    exact AllReadyIn.nil
    exact AllReadyIn.nil
    exact AllReadyIn.nil
    exact AllReadyIn.nil
    refine AllReadyIn.cons rfl (fun K hK => ?_) ?_
    go_simp
    refine hK _ _ ?_
    clear hK K
    refine wpAnyIn_ready (rs := [0, 5]) (by kernel_rfl) (by simp) ?_
    refine AllReadyIn.cons rfl (fun K hK => ?_) ?_
    go_simp
    refine hK _ _ ?_
    clear hK K
    refine wpAnyIn_ready (rs := [5]) (by kernel_rfl) (by simp) ?_
    refine AllReadyIn.cons rfl (fun K hK => ?_) ?_
    go_simp
    refine hK _ _ ?_
    clear hK K
    refine wpAnyIn_ready (rs := [6]) (by kernel_rfl) (by simp) ?_
    refine AllReadyIn.cons rfl (fun K hK => ?_) ?_
    refine stepIn_append _ rfl (.tmp 18) (.tmp 23) 22 rfl (s6 + 3) 2 i2 (.int .i64 0) 1 8 Tryz.underlying22 HI2.out.1 HI2.out.2.1 HI2.out.2.2.1 HI2.out.2.2.2 rfl (by decide) v k ((ds.take k).map (Value.int .i64)) rfl hrd ⟨W.drew.heap.size, 0, none⟩ 1 1 [.int .i64 d] rfl rfl hnew hone hmax hby hba ?_
    intro v' w' q1 q2
    obtain ⟨cw, fw⟩ := hbox _ _ q1 q2
    have hf := hfin _ _ q1 q2
    obtain ⟨g', cap', ev⟩ := ownsRow_succ q1
    subst ev
    clear q1 q2
    refine hK _ _ ?_
    clear hK K
    refine wpAnyIn_ready (rs := [7]) (by kernel_rfl) (by simp) ?_
    refine AllReadyIn.cons rfl (fun K hK => ?_) ?_
    go_simp
    refine hK _ _ ?_
    clear hK K
    refine wpAnyIn_done (by kernel_rfl) ?_ _
    gi_wp2
    simpa using hf
    exact AllReadyIn.nil
    exact AllReadyIn.nil
    exact AllReadyIn.nil
    refine AllReadyIn.cons rfl (fun K hK => ?_) ?_
    go_simp
    refine hK _ _ ?_
    clear hK K
    refine wpAnyIn_ready (rs := [0]) (by kernel_rfl) (by simp) ?_
    refine AllReadyIn.cons rfl (fun K hK => ?_) ?_
    go_simp
    refine hK _ _ ?_
    clear hK K
    refine wpAnyIn_ready (rs := [6]) (by kernel_rfl) (by simp) ?_
    refine AllReadyIn.cons rfl (fun K hK => ?_) ?_
    refine stepIn_append _ rfl (.tmp 18) (.tmp 23) 22 rfl (s6 + 3) 2 i2 (.int .i64 0) 1 8 Tryz.underlying22 HI2.out.1 HI2.out.2.1 HI2.out.2.2.1 HI2.out.2.2.2 rfl (by decide) v k ((ds.take k).map (Value.int .i64)) rfl hrd ⟨W.drew.heap.size, 0, none⟩ 1 1 [.int .i64 d] rfl rfl hnew hone hmax hby hba ?_
    intro v' w' q1 q2
    obtain ⟨cw, fw⟩ := hbox _ _ q1 q2
    have hf := hfin _ _ q1 q2
    obtain ⟨g', cap', ev⟩ := ownsRow_succ q1
    subst ev
    clear q1 q2
    refine hK _ _ ?_
    clear hK K
    refine wpAnyIn_ready (rs := [7]) (by kernel_rfl) (by simp) ?_
    refine AllReadyIn.cons rfl (fun K hK => ?_) ?_
    go_simp
    refine hK _ _ ?_
    clear hK K
    refine wpAnyIn_done (by kernel_rfl) ?_ _
    gi_wp2
    simpa using hf
    exact AllReadyIn.nil
    exact AllReadyIn.nil
    exact AllReadyIn.nil
    exact AllReadyIn.nil
    exact AllReadyIn.nil
    exact AllReadyIn.nil
    exact AllReadyIn.nil
    exact AllReadyIn.nil
  · intro W ⟨v, hv, hr, ha, hb', hc, hbl⟩ hD
    rw [hS6] at hD ⊢
    rw [List.take_of_length_le (by omega)] at hr
    obtain ⟨g', cap', ev, hcap, hlog⟩ : ∃ g cap, v = .slice (some ⟨g, 0, none⟩) x cap ∧ x ≤ cap ∧ s6 + 3 ≤ g := by
      rcases hr.2 with ⟨_, h0⟩ | ⟨g, cap, _, rfl, q1, q2, q3, _⟩
      · omega
      · exact ⟨g, cap, rfl, q3, q1⟩
    subst ev
    have cv := hv.cell
    have cb := hb'.cell
    have cc := hc.cell
    have fb := hb'.frozen
    have fc := hc.frozen
    have HF := Lib.hid (And.intro hr (And.intro hb' (And.intro hc (And.intro hbl hD))))
    clear hr hb' hc hbl hD
    gi_wp2_with fail
    have zW := (Array.getElem?_eq_some_iff.1 HF.out.2.2.2.2).1
    have h0 : g6 + 1 < s6 := z6
    have k2 : ∀ j, j ≠ s0 + 1 + 1 → j ≠ s0 + 1 + 1 + 1 → ((W.setCell ⟨s0 + 1 + 1, 0, none⟩ (.slice (some ⟨g', 0, none⟩) x cap')).setCell ⟨s0 + 1 + 1 + 1, 0, none⟩ (.int .i64 0)).heap[j]? = W.heap[j]? := fun j n1 n2 => (Below.heap_setCell _ _ _ _ n2).trans (Below.heap_setCell _ _ _ _ n1)
    have c2 : ((W.setCell ⟨s0 + 1 + 1, 0, none⟩ (.slice (some ⟨g', 0, none⟩) x cap')).setCell ⟨s0 + 1 + 1 + 1, 0, none⟩ (.int .i64 0)).cell? ⟨s0 + 1 + 1, 0, none⟩ = some (.slice (some ⟨g', 0, none⟩) x cap') := (World.cell?_of_block (a := ⟨s0 + 1 + 1, 0, none⟩) (Below.heap_setCell _ _ _ _ (by show s0 + 1 + 1 ≠ s0 + 1 + 1 + 1; omega))).trans (HF.out.2.1.set _).cell
    have c3 : ((W.setCell ⟨s0 + 1 + 1, 0, none⟩ (.slice (some ⟨g', 0, none⟩) x cap')).setCell ⟨s0 + 1 + 1 + 1, 0, none⟩ (.int .i64 0)).cell? ⟨s0 + 1 + 1 + 1, 0, none⟩ = some (.int .i64 0) := World.cell?_setCell_same' _ _ _ (by rw [World.cell?_of_block (a := ⟨s0 + 1 + 1 + 1, 0, none⟩) (Below.heap_setCell _ _ _ _ (by show s0 + 1 + 1 + 1 ≠ s0 + 1 + 1; omega)), HF.out.2.2.1.cell]; rfl)
    have b2 : Below s0 w ((W.setCell ⟨s0 + 1 + 1, 0, none⟩ (.slice (some ⟨g', 0, none⟩) x cap')).setCell ⟨s0 + 1 + 1 + 1, 0, none⟩ (.int .i64 0)) := (HF.out.2.2.2.1.setCell (by show s0 ≤ s0 + 1 + 1; omega) _).setCell (by show s0 ≤ s0 + 1 + 1 + 1; omega) _
    have z2 : ((W.setCell ⟨s0 + 1 + 1, 0, none⟩ (.slice (some ⟨g', 0, none⟩) x cap')).setCell ⟨s0 + 1 + 1 + 1, 0, none⟩ (.int .i64 0)).heap.size = W.heap.size := by simp [World.setCell]
    generalize (W.setCell ⟨s0 + 1 + 1, 0, none⟩ (.slice (some ⟨g', 0, none⟩) x cap')).setCell ⟨s0 + 1 + 1 + 1, 0, none⟩ (.int .i64 0) = W2 at k2 c2 c3 b2 z2 ⊢
    have hD2 := (k2 s6 (by omega) (by omega)).trans HF.out.2.2.2.2
    have k3 : ∀ j, j ≠ s6 → (W2.putObj s6 (.deferred none)).heap[j]? = W2.heap[j]? := fun j hj => World.putObj_heap_other hj
    have d2 := (World.cell?_of_block (a := ⟨s0 + 1 + 1, 0, none⟩) (k3 _ (by dsimp only; omega))).trans c2
    have d3 := (World.cell?_of_block (a := ⟨s0 + 1 + 1 + 1, 0, none⟩) (k3 _ (by dsimp only; omega))).trans c3
    have hlg := (HF.out.1.lt g' rfl).2
    refine ⟨by simp, .inl ⟨_, _, rfl, run_takeDeferred hD2, ?_⟩⟩
    refine ⟨_, by simp [results, Tryz.results225, go_sem, d2, d3], g', cap', rfl, by omega, by simp; omega, hcap, fun j d hj => ?_, ?_⟩
    · have hj' : j < x := by have := (List.getElem?_eq_some_iff.1 hj).1; omega
      have := HF.out.1.cellAt j (by simpa using hj')
      rw [List.getElem?_map, hj] at this
      refine ⟨g', 0, rfl, ?_⟩
      rw [Nat.zero_add]
      exact ((World.cell?_of_block (a := ⟨g', j, none⟩) (k3 _ (by dsimp only; omega))).trans (World.cell?_of_block (a := ⟨g', j, none⟩) (k2 _ (by dsimp only; omega) (by dsimp only; omega)))).trans this
    · subst hS0
      exact b2.grown (grownBy_putObj' _ _ _) (by have := b2.size; omega) (fun k e => by cases e; omega)
end Go.Proofs.YtbilddeepnnogaaGreatDoor
