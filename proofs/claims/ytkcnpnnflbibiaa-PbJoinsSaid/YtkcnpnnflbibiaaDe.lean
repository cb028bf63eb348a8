/- The walks: a graph read. -/
import Derived.Test.YtkcnpnnflbibiaaDc
import Derived.Test.YtkcnpnnflbibiaaDd
set_option linter.unusedVariables false
namespace Go.Proofs.Ytkcnpnnflbibiaa
open Go.RowKit
/-- What node returns, its cells laid open. -/
def nodeYes (x : Nd) (w : World) (e : Ending) (w' : World) : Prop := ∃ Ad nd cd Ae ne ce, e = .returned (.agg #[.string x.op, .string x.name, .slice Ad nd cd, .string x.out, .slice Ae ne ce]) ∧ Below w.heap.size w w' ∧ repNd.R w' (fun k => w.heap.size ≤ k ∧ k < w'.heap.size) [.string x.op, .string x.name, .slice Ad nd cd, .string x.out, .slice Ae ne ce] x
theorem node_yes {b : ByteArray} {x : Nd} (h : nodeE b = .ok x) (hs : b.size ≤ 140737488351232) (w : World) : Calls Try.prog 53 #[.string b] w (nodeYes x w) := (node_any b w hs).mono fun e w' h2 => by
  rcases h2.2 with ⟨t, cs, h1, rfl, hR⟩ | ⟨err, h1, _⟩
  · rw [h] at h1; cases h1
    obtain ⟨d, e, rfl, h3, h4⟩ := hR
    obtain ⟨Ad, nd, cd, rfl, _⟩ := id h3
    obtain ⟨Ae, ne, ce, rfl, _⟩ := id h4
    exact ⟨Ad, nd, cd, Ae, ne, ce, rfl, h2.1, _, _, rfl, h3, h4⟩
  · rw [h] at h1; cases h1
theorem node_bad {b : ByteArray} {err : Int} (h : nodeE b = .error err) (hs : b.size ≤ 140737488351232) (w : World) : Calls Try.prog 53 #[.string b] w fun e w' => e = .panicked (refu err) ∧ Below w.heap.size w w' := (node_any b w hs).mono fun e w' h2 => by
  rcases h2.2 with ⟨t, cs, h1, _⟩ | ⟨err', h1, h3⟩
  · rw [h] at h1; cases h1
  · rw [h] at h1; cases h1; exact ⟨h3, h2.1⟩
/-- What tensor returns, its cells laid open. -/
def tensorYes (x : Nm) (w : World) (e : Ending) (w' : World) : Prop := ∃ Ad nd cd Ae ne ce, e = .returned (.agg #[.string x.name, .int .i64 x.t.typ, .slice Ad nd cd, .slice Ae ne ce]) ∧ Below w.heap.size w w' ∧ repNm.R w' (fun k => w.heap.size ≤ k ∧ k < w'.heap.size) [.string x.name, .int .i64 x.t.typ, .slice Ad nd cd, .slice Ae ne ce] x
theorem tensor_yes {b : ByteArray} {x : Nm} (h : tensorE b = .ok x) (hs : b.size ≤ 140737488351232) (w : World) : Calls Try.prog 54 #[.string b] w (tensorYes x w) := (tensor_any b w hs).mono fun e w' h2 => by
  rcases h2.2 with ⟨t, cs, h1, rfl, hR⟩ | ⟨err, h1, _⟩
  · rw [h] at h1; cases h1
    obtain ⟨d, e, rfl, h3, h4⟩ := hR
    obtain ⟨Ad, nd, cd, rfl, _⟩ := id h3
    obtain ⟨Ae, ne, ce, rfl, _⟩ := id h4
    exact ⟨Ad, nd, cd, Ae, ne, ce, rfl, h2.1, _, _, rfl, h3, h4⟩
  · rw [h] at h1; cases h1
theorem tensor_bad {b : ByteArray} {err : Int} (h : tensorE b = .error err) (hs : b.size ≤ 140737488351232) (w : World) : Calls Try.prog 54 #[.string b] w fun e w' => e = .panicked (refu err) ∧ Below w.heap.size w w' := (tensor_any b w hs).mono fun e w' h2 => by
  rcases h2.2 with ⟨t, cs, h1, _⟩ | ⟨err', h1, h3⟩
  · rw [h] at h1; cases h1
  · rw [h] at h1; cases h1; exact ⟨h3, h2.1⟩
/-- What value returns, its cells laid open. -/
def valueYes (x : Vl) (w : World) (e : Ending) (w' : World) : Prop := ∃ Ad nd cd, e = .returned (.agg #[.string x.name, .int .i64 x.typ, .slice Ad nd cd]) ∧ Below w.heap.size w w' ∧ repVl.R w' (fun k => w.heap.size ≤ k ∧ k < w'.heap.size) [.string x.name, .int .i64 x.typ, .slice Ad nd cd] x
theorem value_yes {b : ByteArray} {x : Vl} (h : valueE b = .ok x) (hs : b.size ≤ 140737488351232) (w : World) : Calls Try.prog 55 #[.string b] w (valueYes x w) := (value_any b w hs).mono fun e w' h2 => by
  rcases h2.2 with ⟨t, cs, h1, rfl, hR⟩ | ⟨err, h1, _⟩
  · rw [h] at h1; cases h1
    obtain ⟨d, rfl, h3⟩ := hR
    obtain ⟨Ad, nd, cd, rfl, _⟩ := id h3
    exact ⟨Ad, nd, cd, rfl, h2.1, _, rfl, h3⟩
  · rw [h] at h1; cases h1
theorem value_bad {b : ByteArray} {err : Int} (h : valueE b = .error err) (hs : b.size ≤ 140737488351232) (w : World) : Calls Try.prog 55 #[.string b] w fun e w' => e = .panicked (refu err) ∧ Below w.heap.size w w' := (value_any b w hs).mono fun e w' h2 => by
  rcases h2.2 with ⟨t, cs, h1, _⟩ | ⟨err', h1, h3⟩
  · rw [h] at h1; cases h1
  · rw [h] at h1; cases h1; exact ⟨h3, h2.1⟩
set_option maxRecDepth 100000 in
set_option maxHeartbeats 6400000 in
theorem graph_any (s : ByteArray) (w : World) (hs : s.size ≤ 140737488351232) : Calls Try.prog 23 #[.string s] w (GraphIs s w) := by
  have hb0 : Below w.heap.size w ((w.alloc (.cells #[.string ⟨#[]⟩, .slice none 0 0, .slice none 0 0, .slice none 0 0, .slice none 0 0] 34)).alloc (.cells #[.string ⟨#[]⟩, .slice none 0 0, .slice none 0 0, .slice none 0 0, .slice none 0 0] 34)) := ((Below.refl _ _).alloc (Nat.le_refl _) _).alloc (by simp) _
  have hgr := (Below.heap_alloc (w.alloc (.cells #[.string ⟨#[]⟩, .slice none 0 0, .slice none 0 0, .slice none 0 0, .slice none 0 0] 34)) (.cells #[.string ⟨#[]⟩, .slice none 0 0, .slice none 0 0, .slice none 0 0, .slice none 0 0] 34) w.heap.size (by simp)).trans (heap_alloc_new w (.cells #[.string ⟨#[]⟩, .slice none 0 0, .slice none 0 0, .slice none 0 0, .slice none 0 0] 34))
  have hgn := heap_second w (.cells #[.string ⟨#[]⟩, .slice none 0 0, .slice none 0 0, .slice none 0 0, .slice none 0 0] 34) (.cells #[.string ⟨#[]⟩, .slice none 0 0, .slice none 0 0, .slice none 0 0, .slice none 0 0] 34) (w.heap.size + 1) rfl
  have hz0 : ((w.alloc (.cells #[.string ⟨#[]⟩, .slice none 0 0, .slice none 0 0, .slice none 0 0, .slice none 0 0] 34)).alloc (.cells #[.string ⟨#[]⟩, .slice none 0 0, .slice none 0 0, .slice none 0 0, .slice none 0 0] 34)).heap.size = w.heap.size + 2 := by simp
  have HGr := Lib.hid hgr
  have HGn := Lib.hid hgn
  have HB0 := Lib.hid hb0
  have HZ0 := Lib.hid hz0
  have HT := Lib.hid (fields_any s ((w.alloc (.cells #[.string ⟨#[]⟩, .slice none 0 0, .slice none 0 0, .slice none 0 0, .slice none 0 0] 34)).alloc (.cells #[.string ⟨#[]⟩, .slice none 0 0, .slice none 0 0, .slice none 0 0, .slice none 0 0] 34)) hs)
  obtain ⟨i67, hi67, hz670, hz671, hz672⟩ := info_parts Try.info67
  obtain ⟨i69, hi69, hz690, hz691, hz692⟩ := info_parts Try.info69
  obtain ⟨i81, hi81, hz810, hz811, hz812⟩ := info_parts Try.info81
  have HI67 := Lib.hid (show _ ∧ _ ∧ _ ∧ _ from ⟨hi67, hz670, hz671, hz672⟩)
  have HI69 := Lib.hid (show _ ∧ _ ∧ _ ∧ _ from ⟨hi69, hz690, hz691, hz692⟩)
  have HI81 := Lib.hid (show _ ∧ _ ∧ _ ∧ _ from ⟨hi81, hz810, hz811, hz812⟩)
  clear hgr hgn hb0 hz0 hi67 hz670 hz671 hz672 hi69 hz690 hz691 hz692 hi81 hz810 hz811 hz812
  go_enter Try.func23, Try.ntmps23
  go_wp2_with fail
  refine HT.out.mono ?_
  rintro e w1 ⟨hb1, ⟨l, A, c, hl, rfl, hof⟩ | ⟨err, he, rfl⟩⟩
  · have z1 : w.heap.size + 2 ≤ w1.heap.size := by have := hb1.size; rw [HZ0.out] at this; exact this
    have Hb1 := Lib.hid (HB0.out.trans (hb1.mono HB0.out.size))
    have hgr1 := (hb1.block w.heap.size (by rw [HZ0.out]; omega)).trans HGr.out
    have hgn1 := (hb1.block (w.heap.size + 1) (by rw [HZ0.out]; omega)).trans HGn.out
    have HG1 := Lib.hid hgr1
    have HI := Lib.hid (show GInv w1 w1 (w.heap.size + 1) gNone (.slice none 0 0) (.slice none 0 0) (.slice none 0 0) (.slice none 0 0) (fun _ => 0) from ⟨by omega, Only.refl _ _, hgn1, ol_nil _ _ _ _ _ _, ol_nil _ _ _ _ _ _, ol_nil _ _ _ _ _ _, ol_nil _ _ _ _ _ _, fresh_none _, fun _ _ => rfl⟩)
    have hn : l.length ≤ 9223372036854775807 := hof.2
    have hfb : 0 < l.length → ∃ g, A = some ⟨g, 0, none⟩ ∧ w.heap.size + 2 ≤ g ∧ g < w1.heap.size := fun hn => by
      obtain ⟨g, cap, e, h1, h2⟩ := World.ownsRow.form hof.1 hn
      simp only [Value.slice.injEq] at e
      exact ⟨g, e.1, by rw [HZ0.out] at h1; exact h1, h2⟩
    have Hfb := Lib.hid hfb
    have Hfl := Lib.hid (hof.flds rfl)
    have Hk := Lib.hid (fldsE_ok hl)
    have HL := Lib.hid hl
    clear hof hfb hb1 hgr1 hgn1 hl HT HGr HGn HB0 HZ0
    go_wp2_with fail
    go_loopw [9] (fun i wr => ∃ k : Nat, k ≤ l.length ∧ i = .int .i64 k ∧ ∃ a vn vi vo vt lab, runF gStep gNone (l.take k) = .ok a ∧ GInv w1 wr (w.heap.size + 1) a vn vi vo vt lab) (fun i _ => l.length - (intOf i).toNat)
    case atStart => exact ⟨0, by omega, rfl, gNone, _, _, _, _, _, rfl, HI.out⟩
    case round =>
      obtain ⟨k, hk, rfl, a, vn, vi, vo, vt, lab, hrun, hinv⟩ := hrel
      have Hrun := Lib.hid hrun
      have HV := Lib.hid hinv
      have zr := hinv.only.size
      have hwl := wt_mono l k
      have hws := Hk.out.2.2.2.2
      have hsz := Hk.out.2.1
      obtain ⟨hnl, hil, hol, htl⟩ := g_lens _ _ _ hrun
      have hn0 : gNone.nodes.length = 0 := rfl
      have hn1 : gNone.ins.length = 0 := rfl
      have hn2 : gNone.outs.length = 0 := rfl
      have hn3 : gNone.inits.length = 0 := rfl
      rw [hn0] at hnl
      rw [hn1] at hil
      rw [hn2] at hol
      rw [hn3] at htl
      clear hrun hinv hn0 hn1 hn2 hn3
      by_cases hlt : k < l.length
      · obtain ⟨f, hf⟩ : ∃ f, l[k]? = some f := ⟨_, List.getElem?_eq_getElem hlt⟩
        obtain ⟨g, rfl, hg1, hg2⟩ := Hfb.out (by omega)
        obtain ⟨b1, o1, e1, hb1, hc1⟩ := Hfl.out.at_ (by omega)
        simp only [Option.some.injEq, Addr.mk.injEq, and_true] at e1
        obtain ⟨rfl, rfl⟩ := e1
        obtain ⟨x0, x1, x2, x3⟩ := hc1 k f hf
        have hkp : ∀ i, wr.cell? ⟨g, i, none⟩ = w1.cell? ⟨g, i, none⟩ := fun i => World.cell?_of_block (a := ⟨g, i, none⟩) (HV.out.only.block g hg2 (by omega))
        rw [Nat.mul_comm 4 k, Nat.zero_add, ← hkp] at x0 x1 x2 x3
        have hwk := wt_take l k f hf
        have hwm := wt_mono l (k + 1)
        have HE := Lib.hid (fun e => graphE_bad (s := s) (e := e) HL.out hf Hrun.out)
        have HR := Lib.hid (runF_take gStep gNone l k f hf a Hrun.out)
        clear hc1 hf hkp
        obtain ⟨num, kind, u, b⟩ := f
        dsimp only at x0 x1 x2 x3 hwk
        have hbz : b.size ≤ 16777216 := by omega
        have HVa := Lib.hid (HV.out.alloc (.cells #[.int .i64 num, .int .i64 kind, .int .u64 u, .string b] 24))
        have Hbwa := Lib.hid (show Below w.heap.size w (wr.alloc (.cells #[.int .i64 num, .int .i64 kind, .int .u64 u, .string b] 24)) from Hb1.out.trans (HVa.out.only.below (by omega) (by omega)))
        by_cases h1 : num = 1
        · subst h1
          have p0 : (wr.alloc (.cells #[.int .i64 1, .int .i64 kind, .int .u64 u, .string b] 24)).cell? ⟨wr.heap.size, 0, none⟩ = some (.int .i64 1) := cell_of_row _ _ 0 _ 24 (0, 0) (heap_alloc_new wr _)
          have p1 : (wr.alloc (.cells #[.int .i64 1, .int .i64 kind, .int .u64 u, .string b] 24)).cell? ⟨wr.heap.size, 1, none⟩ = some (.int .i64 kind) := cell_of_row _ _ 1 _ 24 (0, 0) (heap_alloc_new wr _)
          have p2 : (wr.alloc (.cells #[.int .i64 1, .int .i64 kind, .int .u64 u, .string b] 24)).cell? ⟨wr.heap.size, 2, none⟩ = some (.int .u64 u) := cell_of_row _ _ 2 _ 24 (0, 0) (heap_alloc_new wr _)
          have p3 : (wr.alloc (.cells #[.int .i64 1, .int .i64 kind, .int .u64 u, .string b] 24)).cell? ⟨wr.heap.size, 3, none⟩ = some (.string b) := cell_of_row _ _ 3 _ 24 (0, 0) (heap_alloc_new wr _)
          have wl0 : wr.heap.size < (wr.alloc (.cells #[.int .i64 1, .int .i64 kind, .int .u64 u, .string b] 24)).heap.size := by simp
          have q2 : (wr.alloc (.cells #[.int .i64 1, .int .i64 kind, .int .u64 u, .string b] 24)).cell? ⟨w.heap.size + 1, 1, none⟩ = some vn := cell_of_row _ _ 1 _ 34 (0, 0) HVa.out.t
          have qf : (wr.alloc (.cells #[.int .i64 1, .int .i64 kind, .int .u64 u, .string b] 24)).frozen? ⟨w.heap.size + 1, 1, none⟩ = false := by simp [World.frozen?, HVa.out.t]
          have gl0 : w.heap.size + 1 < (wr.alloc (.cells #[.int .i64 1, .int .i64 kind, .int .u64 u, .string b] 24)).heap.size := Nat.lt_of_lt_of_le HVa.out.lt HVa.out.only.size
          by_cases hkd : kind = 2
          · subst hkd
            have HC0 := fun w => text_yes 1 u b w
            unfold Fd.val at HC0
            have HC := Lib.hid HC0
            clear HC0
            cases hd : nodeE b with
            | error err =>
              have Hst := Lib.hid (show gStep a ⟨1, 2, u, b⟩ = .error err by simp [gStep, hd])
              have HD := Lib.hid (fun w => node_bad hd (by omega) w)
              clear hd
              go_wp2_with fail
              generalize (wr.alloc (.cells #[.int .i64 1, .int .i64 2, .int .u64 u, .string b] 24)) = W0 at p0 p1 p2 p3 q2 qf wl0 gl0 HVa Hbwa ⊢
              refine wp_region_held_drew (S := fun W => W.cell? ⟨w.heap.size + 1, 1, none⟩ = some vn ∧ W.cell? ⟨wr.heap.size, 0, none⟩ = some (.int .i64 1) ∧ W.cell? ⟨wr.heap.size, 1, none⟩ = some (.int .i64 2) ∧ W.cell? ⟨wr.heap.size, 2, none⟩ = some (.int .u64 u) ∧ W.cell? ⟨wr.heap.size, 3, none⟩ = some (.string b)) (by kernel_rfl) ⟨q2, p0, p1, p2, p3⟩ (fun hHeld => ?_)
              refine wpAnyH_take (i := 0) (v := ?_) rfl (by kernel_rfl) (by kernel_rfl) (by kernel_rfl) (fun _ _ _ h => h) (Or.inl ⟨by rfl, ?_⟩) (by assumption) ?_
              rotate_left
              · first | (intro w hSw; (try dsimp only at hSw); go_simp; done) | (intro w hSw; (try dsimp only at hSw); go_simp; with_reducible rfl)
              try simp only [Act.put, List.getElem_toArray, List.getElem_cons_zero, List.setIfInBounds_toArray, List.set_cons_zero, List.set_cons_succ]
              refine wpAnyH_take (i := 1) (v := ?_) rfl (by kernel_rfl) (by kernel_rfl) (by kernel_rfl) (fun _ _ _ h => h) (Or.inl ⟨by rfl, ?_⟩) (by assumption) ?_
              rotate_left
              · first | (intro w hSw; (try dsimp only at hSw); go_simp; done) | (intro w hSw; (try dsimp only at hSw); go_simp; with_reducible rfl)
              try simp only [Act.put, List.getElem_toArray, List.getElem_cons_zero, List.getElem_cons_succ, List.setIfInBounds_toArray, List.set_cons_zero, List.set_cons_succ]
              refine wpAnyH_take (i := 2) (v := ?_) rfl (by kernel_rfl) (by kernel_rfl) (by kernel_rfl) (fun _ _ _ h => h) (Or.inl ⟨by rfl, ?_⟩) (by assumption) ?_
              rotate_left
              · first | (intro w hSw; (try dsimp only at hSw); go_simp; done) | (intro w hSw; (try dsimp only at hSw); go_simp; with_reducible rfl)
              try simp only [Act.put, List.getElem_toArray, List.getElem_cons_zero, List.getElem_cons_succ, List.setIfInBounds_toArray, List.set_cons_zero, List.set_cons_succ]
              refine wpAnyH_ready (rs := [3]) (by kernel_rfl) (by simp) ?_
              refine AllReadyH.cons rfl (fun K hK => ?_) AllReadyH.nil
              go_simp
              go_at_call 52
              refine (HC.out _).mono ?_
              rintro e w5 ⟨rfl, hb5⟩
              dsimp only
              refine hK.out _ _ ⟨(hb5.cell (by exact gl0)).trans q2, (hb5.cell (by exact wl0)).trans p0, (hb5.cell (by exact wl0)).trans p1, (hb5.cell (by exact wl0)).trans p2, (hb5.cell (by exact wl0)).trans p3⟩ (fun hHeld2 => ?_)
              clear hK K
              try simp only [Act.put, List.getElem_toArray, List.getElem_cons_zero, List.getElem_cons_succ, List.setIfInBounds_toArray, List.set_cons_zero, List.set_cons_succ]
              refine wpAnyH_ready (rs := [4]) (by kernel_rfl) (by simp) ?_
              refine AllReadyH.cons rfl (fun K hK => ?_) AllReadyH.nil
              go_simp
              go_at_call 53
              refine (HD.out _).mono ?_
              rintro e w6 ⟨rfl, hb6⟩
              exact ⟨rfl, graph_no (((below_drewN Hbwa.out 1).trans (hb5.mono Hbwa.out.size)).trans (hb6.mono (Nat.le_trans Hbwa.out.size hb5.size))) (HE.out err Hst.out)⟩
            | ok x =>
              have Hst := Lib.hid (show gStep a ⟨1, 2, u, b⟩ = .ok { a with nodes := a.nodes ++ [x] } by simp [gStep, hd])
              have HD := Lib.hid (fun w => node_yes hd (by omega) w)
              clear hd
              go_wp2_with fail
              generalize (wr.alloc (.cells #[.int .i64 1, .int .i64 2, .int .u64 u, .string b] 24)) = W0 at p0 p1 p2 p3 q2 qf wl0 gl0 HVa Hbwa ⊢
              have hbd : Below W0.heap.size W0 (W0.drewN 1) := below_drewN (Below.refl _ _) 1
              have HVd := Lib.hid (HVa.out.below hbd)
              have w4W := HVa.out.only.size
              clear hbd
              first | (go_region_law (first
                | (go_simp; go_at_call 52; refine (HC.out _).mono ?_; rintro e w5 ⟨rfl, hb5⟩; have q25 : w5.cell? ⟨w.heap.size + 1, 1, none⟩ = some vn := (hb5.cell (by exact gl0)).trans q2; have HV5 := Lib.hid (HVd.out.below hb5); have gl5 : w.heap.size + 1 < w5.heap.size := Nat.lt_of_lt_of_le gl0 hb5.size; have w45 : w1.heap.size ≤ w5.heap.size := Nat.le_trans w4W hb5.size; clear hb5; dsimp only)
                | (go_simp; go_at_call 53; refine (HD.out _).mono ?_; rintro e w6 ⟨Ad, nd, cd, Ae, ne, ce, rfl, hb6, hR6⟩; have q26 : w6.cell? ⟨w.heap.size + 1, 1, none⟩ = some vn := (hb6.cell (by exact gl5)).trans q25; have q2a : (w6.alloc (.cells #[.string x.op, .string x.name, .slice Ad nd cd, .string x.out, .slice Ae ne ce] 67)).cell? ⟨w.heap.size + 1, 1, none⟩ = some vn := (World.cell?_alloc_lt w6 _ _ (Nat.lt_of_lt_of_le gl5 hb6.size)).trans q26; have HV6 := Lib.hid (HV5.out.below hb6); have HR6 := rep_made (lab := lab) (lo := w1.heap.size) hR6 HV5.out.fr w45; have w46 : w1.heap.size ≤ w6.heap.size := Nat.le_trans w45 hb6.size; clear hb6 hR6; dsimp only)
                | (refine step_append_o w6 repNd x [.string x.op, .string x.name, .slice Ad nd cd, .string x.out, .slice Ae ne ce] rfl (.tmp 18) (.tmp 22) 30 rfl 67 i67 _ 96 Try.underlying30 HI67.out.1 HI67.out.2.1 HI67.out.2.2.1 HI67.out.2.2.2 rfl (by decide) (by decide) lab 1 (by decide) w1.heap.size vn a.nodes rfl HV6.out.on HV6.out.fr HR6 w6.heap.size rfl rfl (by omega) w46 ?_; intro v' w7 lab' ho7 hg7; obtain ⟨Aw, mw, cw, hvw⟩ : ∃ A m c, v' = .slice A m c := (by obtain ⟨A, c, e⟩ := OL.form ho7; exact ⟨A, _, c, e⟩); subst hvw; have t7 := HV6.out.t_grown (by decide) hg7; have q27 : w7.cell? ⟨w.heap.size + 1, 1, none⟩ = some vn := cell_of_row _ _ 1 _ 34 (0, 0) t7; have qf7 : w7.frozen? ⟨w.heap.size + 1, 1, none⟩ = false := (by simp [World.frozen?, t7]); have HI7 := Lib.hid (HV6.out.moreN hg7 ho7); clear t7 ho7 hg7))) | fail
              all_goals
                go_wp2_with fail
                go_roundw
                case rel => exact ⟨k + 1, by omega, by go_num, { a with nodes := a.nodes ++ [x] }, _, _, _, _, _, HR.out.trans Hst.out, HI7.out⟩
                case measure => simp [intOf]; omega
          · have Hst := Lib.hid (show gStep a ⟨1, kind, u, b⟩ = .error 3 by simp [gStep, hkd])
            have HC0 := fun w => text_no 1 kind u b w hkd
            unfold Fd.val at HC0
            have HC := Lib.hid HC0
            clear HC0
            go_wp2_with fail
            generalize (wr.alloc (.cells #[.int .i64 1, .int .i64 kind, .int .u64 u, .string b] 24)) = W0 at p0 p1 p2 p3 q2 qf wl0 gl0 HVa Hbwa ⊢
            refine wp_region_held_drew (S := fun W => W.cell? ⟨w.heap.size + 1, 1, none⟩ = some vn ∧ W.cell? ⟨wr.heap.size, 0, none⟩ = some (.int .i64 1) ∧ W.cell? ⟨wr.heap.size, 1, none⟩ = some (.int .i64 kind) ∧ W.cell? ⟨wr.heap.size, 2, none⟩ = some (.int .u64 u) ∧ W.cell? ⟨wr.heap.size, 3, none⟩ = some (.string b)) (by kernel_rfl) ⟨q2, p0, p1, p2, p3⟩ (fun hHeld => ?_)
            refine wpAnyH_take (i := 0) (v := ?_) rfl (by kernel_rfl) (by kernel_rfl) (by kernel_rfl) (fun _ _ _ h => h) (Or.inl ⟨by rfl, ?_⟩) (by assumption) ?_
            rotate_left
            · first | (intro w hSw; (try dsimp only at hSw); go_simp; done) | (intro w hSw; (try dsimp only at hSw); go_simp; with_reducible rfl)
            try simp only [Act.put, List.getElem_toArray, List.getElem_cons_zero, List.setIfInBounds_toArray, List.set_cons_zero, List.set_cons_succ]
            refine wpAnyH_take (i := 1) (v := ?_) rfl (by kernel_rfl) (by kernel_rfl) (by kernel_rfl) (fun _ _ _ h => h) (Or.inl ⟨by rfl, ?_⟩) (by assumption) ?_
            rotate_left
            · first | (intro w hSw; (try dsimp only at hSw); go_simp; done) | (intro w hSw; (try dsimp only at hSw); go_simp; with_reducible rfl)
            try simp only [Act.put, List.getElem_toArray, List.getElem_cons_zero, List.getElem_cons_succ, List.setIfInBounds_toArray, List.set_cons_zero, List.set_cons_succ]
            refine wpAnyH_take (i := 2) (v := ?_) rfl (by kernel_rfl) (by kernel_rfl) (by kernel_rfl) (fun _ _ _ h => h) (Or.inl ⟨by rfl, ?_⟩) (by assumption) ?_
            rotate_left
            · first | (intro w hSw; (try dsimp only at hSw); go_simp; done) | (intro w hSw; (try dsimp only at hSw); go_simp; with_reducible rfl)
            try simp only [Act.put, List.getElem_toArray, List.getElem_cons_zero, List.getElem_cons_succ, List.setIfInBounds_toArray, List.set_cons_zero, List.set_cons_succ]
            refine wpAnyH_ready (rs := [3]) (by kernel_rfl) (by simp) ?_
            refine AllReadyH.cons rfl (fun K hK => ?_) AllReadyH.nil
            go_simp
            go_at_call 52
            refine (HC.out _).mono ?_
            rintro e w5 ⟨rfl, hb5⟩
            exact ⟨rfl, graph_no ((below_drewN Hbwa.out 1).trans (hb5.mono Hbwa.out.size)) (HE.out 3 Hst.out)⟩
        by_cases h2 : num = 2
        · subst h2
          by_cases hkd : kind = 2
          · subst hkd
            have Hst := Lib.hid (show gStep a ⟨2, 2, u, b⟩ = .ok { a with name := b } by simp [gStep])
            have HC := Lib.hid (fun w => text_yes 2 u b w)
            unfold Fd.val at HC
            go_wp2_with fail
            refine (HC.out _).mono ?_
            rintro e w3 ⟨rfl, hb3⟩
            have HW := Lib.hid (HVa.out.below hb3)
            have hc3 : w3.cell? ⟨w.heap.size + 1, 0, none⟩ = some (.string a.name) := cell_of_row _ _ 0 _ 34 (0, 0) HW.out.t
            have hf3 : w3.frozen? ⟨w.heap.size + 1, 0, none⟩ = false := by simp [World.frozen?, HW.out.t]
            have HI3 := Lib.hid (HW.out.name_ b)
            clear hb3
            go_wp2
            go_roundw
            case rel => exact ⟨k + 1, by omega, by go_num, { a with name := b }, vn, vi, vo, vt, lab, HR.out.trans Hst.out, HI3.out⟩
            case measure => simp [intOf]; omega
          · have Hst := Lib.hid (show gStep a ⟨2, kind, u, b⟩ = .error 3 by simp [gStep, hkd])
            have HC := Lib.hid (fun w => text_no 2 kind u b w hkd)
            unfold Fd.val at HC
            go_wp2_with fail
            refine (HC.out _).mono ?_
            rintro e w3 ⟨rfl, hb3⟩
            exact ⟨rfl, graph_no (Hbwa.out.trans (hb3.mono Hbwa.out.size)) (HE.out 3 Hst.out)⟩
        by_cases h5 : num = 5
        · subst h5
          have p0 : (wr.alloc (.cells #[.int .i64 5, .int .i64 kind, .int .u64 u, .string b] 24)).cell? ⟨wr.heap.size, 0, none⟩ = some (.int .i64 5) := cell_of_row _ _ 0 _ 24 (0, 0) (heap_alloc_new wr _)
          have p1 : (wr.alloc (.cells #[.int .i64 5, .int .i64 kind, .int .u64 u, .string b] 24)).cell? ⟨wr.heap.size, 1, none⟩ = some (.int .i64 kind) := cell_of_row _ _ 1 _ 24 (0, 0) (heap_alloc_new wr _)
          have p2 : (wr.alloc (.cells #[.int .i64 5, .int .i64 kind, .int .u64 u, .string b] 24)).cell? ⟨wr.heap.size, 2, none⟩ = some (.int .u64 u) := cell_of_row _ _ 2 _ 24 (0, 0) (heap_alloc_new wr _)
          have p3 : (wr.alloc (.cells #[.int .i64 5, .int .i64 kind, .int .u64 u, .string b] 24)).cell? ⟨wr.heap.size, 3, none⟩ = some (.string b) := cell_of_row _ _ 3 _ 24 (0, 0) (heap_alloc_new wr _)
          have wl0 : wr.heap.size < (wr.alloc (.cells #[.int .i64 5, .int .i64 kind, .int .u64 u, .string b] 24)).heap.size := by simp
          have q2 : (wr.alloc (.cells #[.int .i64 5, .int .i64 kind, .int .u64 u, .string b] 24)).cell? ⟨w.heap.size + 1, 4, none⟩ = some vt := cell_of_row _ _ 4 _ 34 (0, 0) HVa.out.t
          have qf : (wr.alloc (.cells #[.int .i64 5, .int .i64 kind, .int .u64 u, .string b] 24)).frozen? ⟨w.heap.size + 1, 4, none⟩ = false := by simp [World.frozen?, HVa.out.t]
          have gl0 : w.heap.size + 1 < (wr.alloc (.cells #[.int .i64 5, .int .i64 kind, .int .u64 u, .string b] 24)).heap.size := Nat.lt_of_lt_of_le HVa.out.lt HVa.out.only.size
          by_cases hkd : kind = 2
          · subst hkd
            have HC0 := fun w => text_yes 5 u b w
            unfold Fd.val at HC0
            have HC := Lib.hid HC0
            clear HC0
            cases hd : tensorE b with
            | error err =>
              have Hst := Lib.hid (show gStep a ⟨5, 2, u, b⟩ = .error err by simp [gStep, hd])
              have HD := Lib.hid (fun w => tensor_bad hd (by omega) w)
              clear hd
              go_wp2_with fail
              generalize (wr.alloc (.cells #[.int .i64 5, .int .i64 2, .int .u64 u, .string b] 24)) = W0 at p0 p1 p2 p3 q2 qf wl0 gl0 HVa Hbwa ⊢
              refine wp_region_held_drew (S := fun W => W.cell? ⟨w.heap.size + 1, 4, none⟩ = some vt ∧ W.cell? ⟨wr.heap.size, 0, none⟩ = some (.int .i64 5) ∧ W.cell? ⟨wr.heap.size, 1, none⟩ = some (.int .i64 2) ∧ W.cell? ⟨wr.heap.size, 2, none⟩ = some (.int .u64 u) ∧ W.cell? ⟨wr.heap.size, 3, none⟩ = some (.string b)) (by kernel_rfl) ⟨q2, p0, p1, p2, p3⟩ (fun hHeld => ?_)
              refine wpAnyH_take (i := 0) (v := ?_) rfl (by kernel_rfl) (by kernel_rfl) (by kernel_rfl) (fun _ _ _ h => h) (Or.inl ⟨by rfl, ?_⟩) (by assumption) ?_
              rotate_left
              · first | (intro w hSw; (try dsimp only at hSw); go_simp; done) | (intro w hSw; (try dsimp only at hSw); go_simp; with_reducible rfl)
              try simp only [Act.put, List.getElem_toArray, List.getElem_cons_zero, List.setIfInBounds_toArray, List.set_cons_zero, List.set_cons_succ]
              refine wpAnyH_take (i := 1) (v := ?_) rfl (by kernel_rfl) (by kernel_rfl) (by kernel_rfl) (fun _ _ _ h => h) (Or.inl ⟨by rfl, ?_⟩) (by assumption) ?_
              rotate_left
              · first | (intro w hSw; (try dsimp only at hSw); go_simp; done) | (intro w hSw; (try dsimp only at hSw); go_simp; with_reducible rfl)
              try simp only [Act.put, List.getElem_toArray, List.getElem_cons_zero, List.getElem_cons_succ, List.setIfInBounds_toArray, List.set_cons_zero, List.set_cons_succ]
              refine wpAnyH_take (i := 2) (v := ?_) rfl (by kernel_rfl) (by kernel_rfl) (by kernel_rfl) (fun _ _ _ h => h) (Or.inl ⟨by rfl, ?_⟩) (by assumption) ?_
              rotate_left
              · first | (intro w hSw; (try dsimp only at hSw); go_simp; done) | (intro w hSw; (try dsimp only at hSw); go_simp; with_reducible rfl)
              try simp only [Act.put, List.getElem_toArray, List.getElem_cons_zero, List.getElem_cons_succ, List.setIfInBounds_toArray, List.set_cons_zero, List.set_cons_succ]
              refine wpAnyH_ready (rs := [3]) (by kernel_rfl) (by simp) ?_
              refine AllReadyH.cons rfl (fun K hK => ?_) AllReadyH.nil
              go_simp
              go_at_call 52
              refine (HC.out _).mono ?_
              rintro e w5 ⟨rfl, hb5⟩
              dsimp only
              refine hK.out _ _ ⟨(hb5.cell (by exact gl0)).trans q2, (hb5.cell (by exact wl0)).trans p0, (hb5.cell (by exact wl0)).trans p1, (hb5.cell (by exact wl0)).trans p2, (hb5.cell (by exact wl0)).trans p3⟩ (fun hHeld2 => ?_)
              clear hK K
              try simp only [Act.put, List.getElem_toArray, List.getElem_cons_zero, List.getElem_cons_succ, List.setIfInBounds_toArray, List.set_cons_zero, List.set_cons_succ]
              refine wpAnyH_ready (rs := [4]) (by kernel_rfl) (by simp) ?_
              refine AllReadyH.cons rfl (fun K hK => ?_) AllReadyH.nil
              go_simp
              go_at_call 54
              refine (HD.out _).mono ?_
              rintro e w6 ⟨rfl, hb6⟩
              exact ⟨rfl, graph_no (((below_drewN Hbwa.out 1).trans (hb5.mono Hbwa.out.size)).trans (hb6.mono (Nat.le_trans Hbwa.out.size hb5.size))) (HE.out err Hst.out)⟩
            | ok x =>
              have Hst := Lib.hid (show gStep a ⟨5, 2, u, b⟩ = .ok { a with inits := a.inits ++ [x] } by simp [gStep, hd])
              have HD := Lib.hid (fun w => tensor_yes hd (by omega) w)
              clear hd
              go_wp2_with fail
              generalize (wr.alloc (.cells #[.int .i64 5, .int .i64 2, .int .u64 u, .string b] 24)) = W0 at p0 p1 p2 p3 q2 qf wl0 gl0 HVa Hbwa ⊢
              have hbd : Below W0.heap.size W0 (W0.drewN 1) := below_drewN (Below.refl _ _) 1
              have HVd := Lib.hid (HVa.out.below hbd)
              have w4W := HVa.out.only.size
              clear hbd
              first | (go_region_law (first
                | (go_simp; go_at_call 52; refine (HC.out _).mono ?_; rintro e w5 ⟨rfl, hb5⟩; have q25 : w5.cell? ⟨w.heap.size + 1, 4, none⟩ = some vt := (hb5.cell (by exact gl0)).trans q2; have HV5 := Lib.hid (HVd.out.below hb5); have gl5 : w.heap.size + 1 < w5.heap.size := Nat.lt_of_lt_of_le gl0 hb5.size; have w45 : w1.heap.size ≤ w5.heap.size := Nat.le_trans w4W hb5.size; clear hb5; dsimp only)
                | (go_simp; go_at_call 54; refine (HD.out _).mono ?_; rintro e w6 ⟨Ad, nd, cd, Ae, ne, ce, rfl, hb6, hR6⟩; have q26 : w6.cell? ⟨w.heap.size + 1, 4, none⟩ = some vt := (hb6.cell (by exact gl5)).trans q25; have q2a : (w6.alloc (.cells #[.string x.name, .int .i64 x.t.typ, .slice Ad nd cd, .slice Ae ne ce] 69)).cell? ⟨w.heap.size + 1, 4, none⟩ = some vt := (World.cell?_alloc_lt w6 _ _ (Nat.lt_of_lt_of_le gl5 hb6.size)).trans q26; have HV6 := Lib.hid (HV5.out.below hb6); have HR6 := rep_made (lab := lab) (lo := w1.heap.size) hR6 HV5.out.fr w45; have w46 : w1.heap.size ≤ w6.heap.size := Nat.le_trans w45 hb6.size; clear hb6 hR6; dsimp only)
                | (refine step_append_o w6 repNm x [.string x.name, .int .i64 x.t.typ, .slice Ad nd cd, .slice Ae ne ce] rfl (.tmp 33) (.tmp 37) 32 rfl 69 i69 _ 72 Try.underlying32 HI69.out.1 HI69.out.2.1 HI69.out.2.2.1 HI69.out.2.2.2 rfl (by decide) (by decide) lab 4 (by decide) w1.heap.size vt a.inits rfl HV6.out.ot HV6.out.fr HR6 w6.heap.size rfl rfl (by omega) w46 ?_; intro v' w7 lab' ho7 hg7; obtain ⟨Aw, mw, cw, hvw⟩ : ∃ A m c, v' = .slice A m c := (by obtain ⟨A, c, e⟩ := OL.form ho7; exact ⟨A, _, c, e⟩); subst hvw; have t7 := HV6.out.t_grown (by decide) hg7; have q27 : w7.cell? ⟨w.heap.size + 1, 4, none⟩ = some vt := cell_of_row _ _ 4 _ 34 (0, 0) t7; have qf7 : w7.frozen? ⟨w.heap.size + 1, 4, none⟩ = false := (by simp [World.frozen?, t7]); have HI7 := Lib.hid (HV6.out.moreT hg7 ho7); clear t7 ho7 hg7))) | fail
              all_goals
                go_wp2_with fail
                go_roundw
                case rel => exact ⟨k + 1, by omega, by go_num, { a with inits := a.inits ++ [x] }, _, _, _, _, _, HR.out.trans Hst.out, HI7.out⟩
                case measure => simp [intOf]; omega
          · have Hst := Lib.hid (show gStep a ⟨5, kind, u, b⟩ = .error 3 by simp [gStep, hkd])
            have HC0 := fun w => text_no 5 kind u b w hkd
            unfold Fd.val at HC0
            have HC := Lib.hid HC0
            clear HC0
            go_wp2_with fail
            generalize (wr.alloc (.cells #[.int .i64 5, .int .i64 kind, .int .u64 u, .string b] 24)) = W0 at p0 p1 p2 p3 q2 qf wl0 gl0 HVa Hbwa ⊢
            refine wp_region_held_drew (S := fun W => W.cell? ⟨w.heap.size + 1, 4, none⟩ = some vt ∧ W.cell? ⟨wr.heap.size, 0, none⟩ = some (.int .i64 5) ∧ W.cell? ⟨wr.heap.size, 1, none⟩ = some (.int .i64 kind) ∧ W.cell? ⟨wr.heap.size, 2, none⟩ = some (.int .u64 u) ∧ W.cell? ⟨wr.heap.size, 3, none⟩ = some (.string b)) (by kernel_rfl) ⟨q2, p0, p1, p2, p3⟩ (fun hHeld => ?_)
            refine wpAnyH_take (i := 0) (v := ?_) rfl (by kernel_rfl) (by kernel_rfl) (by kernel_rfl) (fun _ _ _ h => h) (Or.inl ⟨by rfl, ?_⟩) (by assumption) ?_
            rotate_left
            · first | (intro w hSw; (try dsimp only at hSw); go_simp; done) | (intro w hSw; (try dsimp only at hSw); go_simp; with_reducible rfl)
            try simp only [Act.put, List.getElem_toArray, List.getElem_cons_zero, List.setIfInBounds_toArray, List.set_cons_zero, List.set_cons_succ]
            refine wpAnyH_take (i := 1) (v := ?_) rfl (by kernel_rfl) (by kernel_rfl) (by kernel_rfl) (fun _ _ _ h => h) (Or.inl ⟨by rfl, ?_⟩) (by assumption) ?_
            rotate_left
            · first | (intro w hSw; (try dsimp only at hSw); go_simp; done) | (intro w hSw; (try dsimp only at hSw); go_simp; with_reducible rfl)
            try simp only [Act.put, List.getElem_toArray, List.getElem_cons_zero, List.getElem_cons_succ, List.setIfInBounds_toArray, List.set_cons_zero, List.set_cons_succ]
            refine wpAnyH_take (i := 2) (v := ?_) rfl (by kernel_rfl) (by kernel_rfl) (by kernel_rfl) (fun _ _ _ h => h) (Or.inl ⟨by rfl, ?_⟩) (by assumption) ?_
            rotate_left
            · first | (intro w hSw; (try dsimp only at hSw); go_simp; done) | (intro w hSw; (try dsimp only at hSw); go_simp; with_reducible rfl)
            try simp only [Act.put, List.getElem_toArray, List.getElem_cons_zero, List.getElem_cons_succ, List.setIfInBounds_toArray, List.set_cons_zero, List.set_cons_succ]
            refine wpAnyH_ready (rs := [3]) (by kernel_rfl) (by simp) ?_
            refine AllReadyH.cons rfl (fun K hK => ?_) AllReadyH.nil
            go_simp
            go_at_call 52
            refine (HC.out _).mono ?_
            rintro e w5 ⟨rfl, hb5⟩
            exact ⟨rfl, graph_no ((below_drewN Hbwa.out 1).trans (hb5.mono Hbwa.out.size)) (HE.out 3 Hst.out)⟩
        by_cases h11 : num = 11
        · subst h11
          have p0 : (wr.alloc (.cells #[.int .i64 11, .int .i64 kind, .int .u64 u, .string b] 24)).cell? ⟨wr.heap.size, 0, none⟩ = some (.int .i64 11) := cell_of_row _ _ 0 _ 24 (0, 0) (heap_alloc_new wr _)
          have p1 : (wr.alloc (.cells #[.int .i64 11, .int .i64 kind, .int .u64 u, .string b] 24)).cell? ⟨wr.heap.size, 1, none⟩ = some (.int .i64 kind) := cell_of_row _ _ 1 _ 24 (0, 0) (heap_alloc_new wr _)
          have p2 : (wr.alloc (.cells #[.int .i64 11, .int .i64 kind, .int .u64 u, .string b] 24)).cell? ⟨wr.heap.size, 2, none⟩ = some (.int .u64 u) := cell_of_row _ _ 2 _ 24 (0, 0) (heap_alloc_new wr _)
          have p3 : (wr.alloc (.cells #[.int .i64 11, .int .i64 kind, .int .u64 u, .string b] 24)).cell? ⟨wr.heap.size, 3, none⟩ = some (.string b) := cell_of_row _ _ 3 _ 24 (0, 0) (heap_alloc_new wr _)
          have wl0 : wr.heap.size < (wr.alloc (.cells #[.int .i64 11, .int .i64 kind, .int .u64 u, .string b] 24)).heap.size := by simp
          have q2 : (wr.alloc (.cells #[.int .i64 11, .int .i64 kind, .int .u64 u, .string b] 24)).cell? ⟨w.heap.size + 1, 2, none⟩ = some vi := cell_of_row _ _ 2 _ 34 (0, 0) HVa.out.t
          have qf : (wr.alloc (.cells #[.int .i64 11, .int .i64 kind, .int .u64 u, .string b] 24)).frozen? ⟨w.heap.size + 1, 2, none⟩ = false := by simp [World.frozen?, HVa.out.t]
          have gl0 : w.heap.size + 1 < (wr.alloc (.cells #[.int .i64 11, .int .i64 kind, .int .u64 u, .string b] 24)).heap.size := Nat.lt_of_lt_of_le HVa.out.lt HVa.out.only.size
          by_cases hkd : kind = 2
          · subst hkd
            have HC0 := fun w => text_yes 11 u b w
            unfold Fd.val at HC0
            have HC := Lib.hid HC0
            clear HC0
            cases hd : valueE b with
            | error err =>
              have Hst := Lib.hid (show gStep a ⟨11, 2, u, b⟩ = .error err by simp [gStep, hd])
              have HD := Lib.hid (fun w => value_bad hd (by omega) w)
              clear hd
              go_wp2_with fail
              generalize (wr.alloc (.cells #[.int .i64 11, .int .i64 2, .int .u64 u, .string b] 24)) = W0 at p0 p1 p2 p3 q2 qf wl0 gl0 HVa Hbwa ⊢
              refine wp_region_held_drew (S := fun W => W.cell? ⟨w.heap.size + 1, 2, none⟩ = some vi ∧ W.cell? ⟨wr.heap.size, 0, none⟩ = some (.int .i64 11) ∧ W.cell? ⟨wr.heap.size, 1, none⟩ = some (.int .i64 2) ∧ W.cell? ⟨wr.heap.size, 2, none⟩ = some (.int .u64 u) ∧ W.cell? ⟨wr.heap.size, 3, none⟩ = some (.string b)) (by kernel_rfl) ⟨q2, p0, p1, p2, p3⟩ (fun hHeld => ?_)
              refine wpAnyH_take (i := 0) (v := ?_) rfl (by kernel_rfl) (by kernel_rfl) (by kernel_rfl) (fun _ _ _ h => h) (Or.inl ⟨by rfl, ?_⟩) (by assumption) ?_
              rotate_left
              · first | (intro w hSw; (try dsimp only at hSw); go_simp; done) | (intro w hSw; (try dsimp only at hSw); go_simp; with_reducible rfl)
              try simp only [Act.put, List.getElem_toArray, List.getElem_cons_zero, List.setIfInBounds_toArray, List.set_cons_zero, List.set_cons_succ]
              refine wpAnyH_take (i := 1) (v := ?_) rfl (by kernel_rfl) (by kernel_rfl) (by kernel_rfl) (fun _ _ _ h => h) (Or.inl ⟨by rfl, ?_⟩) (by assumption) ?_
              rotate_left
              · first | (intro w hSw; (try dsimp only at hSw); go_simp; done) | (intro w hSw; (try dsimp only at hSw); go_simp; with_reducible rfl)
              try simp only [Act.put, List.getElem_toArray, List.getElem_cons_zero, List.getElem_cons_succ, List.setIfInBounds_toArray, List.set_cons_zero, List.set_cons_succ]
              refine wpAnyH_take (i := 2) (v := ?_) rfl (by kernel_rfl) (by kernel_rfl) (by kernel_rfl) (fun _ _ _ h => h) (Or.inl ⟨by rfl, ?_⟩) (by assumption) ?_
              rotate_left
              · first | (intro w hSw; (try dsimp only at hSw); go_simp; done) | (intro w hSw; (try dsimp only at hSw); go_simp; with_reducible rfl)
              try simp only [Act.put, List.getElem_toArray, List.getElem_cons_zero, List.getElem_cons_succ, List.setIfInBounds_toArray, List.set_cons_zero, List.set_cons_succ]
              refine wpAnyH_ready (rs := [3]) (by kernel_rfl) (by simp) ?_
              refine AllReadyH.cons rfl (fun K hK => ?_) AllReadyH.nil
              go_simp
              go_at_call 52
              refine (HC.out _).mono ?_
              rintro e w5 ⟨rfl, hb5⟩
              dsimp only
              refine hK.out _ _ ⟨(hb5.cell (by exact gl0)).trans q2, (hb5.cell (by exact wl0)).trans p0, (hb5.cell (by exact wl0)).trans p1, (hb5.cell (by exact wl0)).trans p2, (hb5.cell (by exact wl0)).trans p3⟩ (fun hHeld2 => ?_)
              clear hK K
              try simp only [Act.put, List.getElem_toArray, List.getElem_cons_zero, List.getElem_cons_succ, List.setIfInBounds_toArray, List.set_cons_zero, List.set_cons_succ]
              refine wpAnyH_ready (rs := [4]) (by kernel_rfl) (by simp) ?_
              refine AllReadyH.cons rfl (fun K hK => ?_) AllReadyH.nil
              go_simp
              go_at_call 55
              refine (HD.out _).mono ?_
              rintro e w6 ⟨rfl, hb6⟩
              exact ⟨rfl, graph_no (((below_drewN Hbwa.out 1).trans (hb5.mono Hbwa.out.size)).trans (hb6.mono (Nat.le_trans Hbwa.out.size hb5.size))) (HE.out err Hst.out)⟩
            | ok x =>
              have Hst := Lib.hid (show gStep a ⟨11, 2, u, b⟩ = .ok { a with ins := a.ins ++ [x] } by simp [gStep, hd])
              have HD := Lib.hid (fun w => value_yes hd (by omega) w)
              clear hd
              go_wp2_with fail
              generalize (wr.alloc (.cells #[.int .i64 11, .int .i64 2, .int .u64 u, .string b] 24)) = W0 at p0 p1 p2 p3 q2 qf wl0 gl0 HVa Hbwa ⊢
              have hbd : Below W0.heap.size W0 (W0.drewN 1) := below_drewN (Below.refl _ _) 1
              have HVd := Lib.hid (HVa.out.below hbd)
              have w4W := HVa.out.only.size
              clear hbd
              first | (go_region_law (first
                | (go_simp; go_at_call 52; refine (HC.out _).mono ?_; rintro e w5 ⟨rfl, hb5⟩; have q25 : w5.cell? ⟨w.heap.size + 1, 2, none⟩ = some vi := (hb5.cell (by exact gl0)).trans q2; have HV5 := Lib.hid (HVd.out.below hb5); have gl5 : w.heap.size + 1 < w5.heap.size := Nat.lt_of_lt_of_le gl0 hb5.size; have w45 : w1.heap.size ≤ w5.heap.size := Nat.le_trans w4W hb5.size; clear hb5; dsimp only)
                | (go_simp; go_at_call 55; refine (HD.out _).mono ?_; rintro e w6 ⟨Ad, nd, cd, rfl, hb6, hR6⟩; have q26 : w6.cell? ⟨w.heap.size + 1, 2, none⟩ = some vi := (hb6.cell (by exact gl5)).trans q25; have q2a : (w6.alloc (.cells #[.string x.name, .int .i64 x.typ, .slice Ad nd cd] 81)).cell? ⟨w.heap.size + 1, 2, none⟩ = some vi := (World.cell?_alloc_lt w6 _ _ (Nat.lt_of_lt_of_le gl5 hb6.size)).trans q26; have HV6 := Lib.hid (HV5.out.below hb6); have HR6 := rep_made (lab := lab) (lo := w1.heap.size) hR6 HV5.out.fr w45; have w46 : w1.heap.size ≤ w6.heap.size := Nat.le_trans w45 hb6.size; clear hb6 hR6; dsimp only)
                | (refine step_append_o w6 repVl x [.string x.name, .int .i64 x.typ, .slice Ad nd cd] rfl (.tmp 43) (.tmp 47) 31 rfl 81 i81 _ 48 Try.underlying31 HI81.out.1 HI81.out.2.1 HI81.out.2.2.1 HI81.out.2.2.2 rfl (by decide) (by decide) lab 2 (by decide) w1.heap.size vi a.ins rfl HV6.out.oi HV6.out.fr HR6 w6.heap.size rfl rfl (by omega) w46 ?_; intro v' w7 lab' ho7 hg7; obtain ⟨Aw, mw, cw, hvw⟩ : ∃ A m c, v' = .slice A m c := (by obtain ⟨A, c, e⟩ := OL.form ho7; exact ⟨A, _, c, e⟩); subst hvw; have t7 := HV6.out.t_grown (by decide) hg7; have q27 : w7.cell? ⟨w.heap.size + 1, 2, none⟩ = some vi := cell_of_row _ _ 2 _ 34 (0, 0) t7; have qf7 : w7.frozen? ⟨w.heap.size + 1, 2, none⟩ = false := (by simp [World.frozen?, t7]); have HI7 := Lib.hid (HV6.out.moreI hg7 ho7); clear t7 ho7 hg7))) | fail
              all_goals
                go_wp2_with fail
                go_roundw
                case rel => exact ⟨k + 1, by omega, by go_num, { a with ins := a.ins ++ [x] }, _, _, _, _, _, HR.out.trans Hst.out, HI7.out⟩
                case measure => simp [intOf]; omega
          · have Hst := Lib.hid (show gStep a ⟨11, kind, u, b⟩ = .error 3 by simp [gStep, hkd])
            have HC0 := fun w => text_no 11 kind u b w hkd
            unfold Fd.val at HC0
            have HC := Lib.hid HC0
            clear HC0
            go_wp2_with fail
            generalize (wr.alloc (.cells #[.int .i64 11, .int .i64 kind, .int .u64 u, .string b] 24)) = W0 at p0 p1 p2 p3 q2 qf wl0 gl0 HVa Hbwa ⊢
            refine wp_region_held_drew (S := fun W => W.cell? ⟨w.heap.size + 1, 2, none⟩ = some vi ∧ W.cell? ⟨wr.heap.size, 0, none⟩ = some (.int .i64 11) ∧ W.cell? ⟨wr.heap.size, 1, none⟩ = some (.int .i64 kind) ∧ W.cell? ⟨wr.heap.size, 2, none⟩ = some (.int .u64 u) ∧ W.cell? ⟨wr.heap.size, 3, none⟩ = some (.string b)) (by kernel_rfl) ⟨q2, p0, p1, p2, p3⟩ (fun hHeld => ?_)
            refine wpAnyH_take (i := 0) (v := ?_) rfl (by kernel_rfl) (by kernel_rfl) (by kernel_rfl) (fun _ _ _ h => h) (Or.inl ⟨by rfl, ?_⟩) (by assumption) ?_
            rotate_left
            · first | (intro w hSw; (try dsimp only at hSw); go_simp; done) | (intro w hSw; (try dsimp only at hSw); go_simp; with_reducible rfl)
            try simp only [Act.put, List.getElem_toArray, List.getElem_cons_zero, List.setIfInBounds_toArray, List.set_cons_zero, List.set_cons_succ]
            refine wpAnyH_take (i := 1) (v := ?_) rfl (by kernel_rfl) (by kernel_rfl) (by kernel_rfl) (fun _ _ _ h => h) (Or.inl ⟨by rfl, ?_⟩) (by assumption) ?_
            rotate_left
            · first | (intro w hSw; (try dsimp only at hSw); go_simp; done) | (intro w hSw; (try dsimp only at hSw); go_simp; with_reducible rfl)
            try simp only [Act.put, List.getElem_toArray, List.getElem_cons_zero, List.getElem_cons_succ, List.setIfInBounds_toArray, List.set_cons_zero, List.set_cons_succ]
            refine wpAnyH_take (i := 2) (v := ?_) rfl (by kernel_rfl) (by kernel_rfl) (by kernel_rfl) (fun _ _ _ h => h) (Or.inl ⟨by rfl, ?_⟩) (by assumption) ?_
            rotate_left
            · first | (intro w hSw; (try dsimp only at hSw); go_simp; done) | (intro w hSw; (try dsimp only at hSw); go_simp; with_reducible rfl)
            try simp only [Act.put, List.getElem_toArray, List.getElem_cons_zero, List.getElem_cons_succ, List.setIfInBounds_toArray, List.set_cons_zero, List.set_cons_succ]
            refine wpAnyH_ready (rs := [3]) (by kernel_rfl) (by simp) ?_
            refine AllReadyH.cons rfl (fun K hK => ?_) AllReadyH.nil
            go_simp
            go_at_call 52
            refine (HC.out _).mono ?_
            rintro e w5 ⟨rfl, hb5⟩
            exact ⟨rfl, graph_no ((below_drewN Hbwa.out 1).trans (hb5.mono Hbwa.out.size)) (HE.out 3 Hst.out)⟩
        by_cases h12 : num = 12
        · subst h12
          have p0 : (wr.alloc (.cells #[.int .i64 12, .int .i64 kind, .int .u64 u, .string b] 24)).cell? ⟨wr.heap.size, 0, none⟩ = some (.int .i64 12) := cell_of_row _ _ 0 _ 24 (0, 0) (heap_alloc_new wr _)
          have p1 : (wr.alloc (.cells #[.int .i64 12, .int .i64 kind, .int .u64 u, .string b] 24)).cell? ⟨wr.heap.size, 1, none⟩ = some (.int .i64 kind) := cell_of_row _ _ 1 _ 24 (0, 0) (heap_alloc_new wr _)
          have p2 : (wr.alloc (.cells #[.int .i64 12, .int .i64 kind, .int .u64 u, .string b] 24)).cell? ⟨wr.heap.size, 2, none⟩ = some (.int .u64 u) := cell_of_row _ _ 2 _ 24 (0, 0) (heap_alloc_new wr _)
          have p3 : (wr.alloc (.cells #[.int .i64 12, .int .i64 kind, .int .u64 u, .string b] 24)).cell? ⟨wr.heap.size, 3, none⟩ = some (.string b) := cell_of_row _ _ 3 _ 24 (0, 0) (heap_alloc_new wr _)
          have wl0 : wr.heap.size < (wr.alloc (.cells #[.int .i64 12, .int .i64 kind, .int .u64 u, .string b] 24)).heap.size := by simp
          have q2 : (wr.alloc (.cells #[.int .i64 12, .int .i64 kind, .int .u64 u, .string b] 24)).cell? ⟨w.heap.size + 1, 3, none⟩ = some vo := cell_of_row _ _ 3 _ 34 (0, 0) HVa.out.t
          have qf : (wr.alloc (.cells #[.int .i64 12, .int .i64 kind, .int .u64 u, .string b] 24)).frozen? ⟨w.heap.size + 1, 3, none⟩ = false := by simp [World.frozen?, HVa.out.t]
          have gl0 : w.heap.size + 1 < (wr.alloc (.cells #[.int .i64 12, .int .i64 kind, .int .u64 u, .string b] 24)).heap.size := Nat.lt_of_lt_of_le HVa.out.lt HVa.out.only.size
          by_cases hkd : kind = 2
          · subst hkd
            have HC0 := fun w => text_yes 12 u b w
            unfold Fd.val at HC0
            have HC := Lib.hid HC0
            clear HC0
            cases hd : valueE b with
            | error err =>
              have Hst := Lib.hid (show gStep a ⟨12, 2, u, b⟩ = .error err by simp [gStep, hd])
              have HD := Lib.hid (fun w => value_bad hd (by omega) w)
              clear hd
              go_wp2_with fail
              generalize (wr.alloc (.cells #[.int .i64 12, .int .i64 2, .int .u64 u, .string b] 24)) = W0 at p0 p1 p2 p3 q2 qf wl0 gl0 HVa Hbwa ⊢
              refine wp_region_held_drew (S := fun W => W.cell? ⟨w.heap.size + 1, 3, none⟩ = some vo ∧ W.cell? ⟨wr.heap.size, 0, none⟩ = some (.int .i64 12) ∧ W.cell? ⟨wr.heap.size, 1, none⟩ = some (.int .i64 2) ∧ W.cell? ⟨wr.heap.size, 2, none⟩ = some (.int .u64 u) ∧ W.cell? ⟨wr.heap.size, 3, none⟩ = some (.string b)) (by kernel_rfl) ⟨q2, p0, p1, p2, p3⟩ (fun hHeld => ?_)
              refine wpAnyH_take (i := 0) (v := ?_) rfl (by kernel_rfl) (by kernel_rfl) (by kernel_rfl) (fun _ _ _ h => h) (Or.inl ⟨by rfl, ?_⟩) (by assumption) ?_
              rotate_left
              · first | (intro w hSw; (try dsimp only at hSw); go_simp; done) | (intro w hSw; (try dsimp only at hSw); go_simp; with_reducible rfl)
              try simp only [Act.put, List.getElem_toArray, List.getElem_cons_zero, List.setIfInBounds_toArray, List.set_cons_zero, List.set_cons_succ]
              refine wpAnyH_take (i := 1) (v := ?_) rfl (by kernel_rfl) (by kernel_rfl) (by kernel_rfl) (fun _ _ _ h => h) (Or.inl ⟨by rfl, ?_⟩) (by assumption) ?_
              rotate_left
              · first | (intro w hSw; (try dsimp only at hSw); go_simp; done) | (intro w hSw; (try dsimp only at hSw); go_simp; with_reducible rfl)
              try simp only [Act.put, List.getElem_toArray, List.getElem_cons_zero, List.getElem_cons_succ, List.setIfInBounds_toArray, List.set_cons_zero, List.set_cons_succ]
              refine wpAnyH_take (i := 2) (v := ?_) rfl (by kernel_rfl) (by kernel_rfl) (by kernel_rfl) (fun _ _ _ h => h) (Or.inl ⟨by rfl, ?_⟩) (by assumption) ?_
              rotate_left
              · first | (intro w hSw; (try dsimp only at hSw); go_simp; done) | (intro w hSw; (try dsimp only at hSw); go_simp; with_reducible rfl)
              try simp only [Act.put, List.getElem_toArray, List.getElem_cons_zero, List.getElem_cons_succ, List.setIfInBounds_toArray, List.set_cons_zero, List.set_cons_succ]
              refine wpAnyH_ready (rs := [3]) (by kernel_rfl) (by simp) ?_
              refine AllReadyH.cons rfl (fun K hK => ?_) AllReadyH.nil
              go_simp
              go_at_call 52
              refine (HC.out _).mono ?_
              rintro e w5 ⟨rfl, hb5⟩
              dsimp only
              refine hK.out _ _ ⟨(hb5.cell (by exact gl0)).trans q2, (hb5.cell (by exact wl0)).trans p0, (hb5.cell (by exact wl0)).trans p1, (hb5.cell (by exact wl0)).trans p2, (hb5.cell (by exact wl0)).trans p3⟩ (fun hHeld2 => ?_)
              clear hK K
              try simp only [Act.put, List.getElem_toArray, List.getElem_cons_zero, List.getElem_cons_succ, List.setIfInBounds_toArray, List.set_cons_zero, List.set_cons_succ]
              refine wpAnyH_ready (rs := [4]) (by kernel_rfl) (by simp) ?_
              refine AllReadyH.cons rfl (fun K hK => ?_) AllReadyH.nil
              go_simp
              go_at_call 55
              refine (HD.out _).mono ?_
              rintro e w6 ⟨rfl, hb6⟩
              exact ⟨rfl, graph_no (((below_drewN Hbwa.out 1).trans (hb5.mono Hbwa.out.size)).trans (hb6.mono (Nat.le_trans Hbwa.out.size hb5.size))) (HE.out err Hst.out)⟩
            | ok x =>
              have Hst := Lib.hid (show gStep a ⟨12, 2, u, b⟩ = .ok { a with outs := a.outs ++ [x] } by simp [gStep, hd])
              have HD := Lib.hid (fun w => value_yes hd (by omega) w)
              clear hd
              go_wp2_with fail
              generalize (wr.alloc (.cells #[.int .i64 12, .int .i64 2, .int .u64 u, .string b] 24)) = W0 at p0 p1 p2 p3 q2 qf wl0 gl0 HVa Hbwa ⊢
              have hbd : Below W0.heap.size W0 (W0.drewN 1) := below_drewN (Below.refl _ _) 1
              have HVd := Lib.hid (HVa.out.below hbd)
              have w4W := HVa.out.only.size
              clear hbd
              first | (go_region_law (first
                | (go_simp; go_at_call 52; refine (HC.out _).mono ?_; rintro e w5 ⟨rfl, hb5⟩; have q25 : w5.cell? ⟨w.heap.size + 1, 3, none⟩ = some vo := (hb5.cell (by exact gl0)).trans q2; have HV5 := Lib.hid (HVd.out.below hb5); have gl5 : w.heap.size + 1 < w5.heap.size := Nat.lt_of_lt_of_le gl0 hb5.size; have w45 : w1.heap.size ≤ w5.heap.size := Nat.le_trans w4W hb5.size; clear hb5; dsimp only)
                | (go_simp; go_at_call 55; refine (HD.out _).mono ?_; rintro e w6 ⟨Ad, nd, cd, rfl, hb6, hR6⟩; have q26 : w6.cell? ⟨w.heap.size + 1, 3, none⟩ = some vo := (hb6.cell (by exact gl5)).trans q25; have q2a : (w6.alloc (.cells #[.string x.name, .int .i64 x.typ, .slice Ad nd cd] 81)).cell? ⟨w.heap.size + 1, 3, none⟩ = some vo := (World.cell?_alloc_lt w6 _ _ (Nat.lt_of_lt_of_le gl5 hb6.size)).trans q26; have HV6 := Lib.hid (HV5.out.below hb6); have HR6 := rep_made (lab := lab) (lo := w1.heap.size) hR6 HV5.out.fr w45; have w46 : w1.heap.size ≤ w6.heap.size := Nat.le_trans w45 hb6.size; clear hb6 hR6; dsimp only)
                | (refine step_append_o w6 repVl x [.string x.name, .int .i64 x.typ, .slice Ad nd cd] rfl (.tmp 53) (.tmp 57) 31 rfl 81 i81 _ 48 Try.underlying31 HI81.out.1 HI81.out.2.1 HI81.out.2.2.1 HI81.out.2.2.2 rfl (by decide) (by decide) lab 3 (by decide) w1.heap.size vo a.outs rfl HV6.out.oo HV6.out.fr HR6 w6.heap.size rfl rfl (by omega) w46 ?_; intro v' w7 lab' ho7 hg7; obtain ⟨Aw, mw, cw, hvw⟩ : ∃ A m c, v' = .slice A m c := (by obtain ⟨A, c, e⟩ := OL.form ho7; exact ⟨A, _, c, e⟩); subst hvw; have t7 := HV6.out.t_grown (by decide) hg7; have q27 : w7.cell? ⟨w.heap.size + 1, 3, none⟩ = some vo := cell_of_row _ _ 3 _ 34 (0, 0) t7; have qf7 : w7.frozen? ⟨w.heap.size + 1, 3, none⟩ = false := (by simp [World.frozen?, t7]); have HI7 := Lib.hid (HV6.out.moreO hg7 ho7); clear t7 ho7 hg7))) | fail
              all_goals
                go_wp2_with fail
                go_roundw
                case rel => exact ⟨k + 1, by omega, by go_num, { a with outs := a.outs ++ [x] }, _, _, _, _, _, HR.out.trans Hst.out, HI7.out⟩
                case measure => simp [intOf]; omega
          · have Hst := Lib.hid (show gStep a ⟨12, kind, u, b⟩ = .error 3 by simp [gStep, hkd])
            have HC0 := fun w => text_no 12 kind u b w hkd
            unfold Fd.val at HC0
            have HC := Lib.hid HC0
            clear HC0
            go_wp2_with fail
            generalize (wr.alloc (.cells #[.int .i64 12, .int .i64 kind, .int .u64 u, .string b] 24)) = W0 at p0 p1 p2 p3 q2 qf wl0 gl0 HVa Hbwa ⊢
            refine wp_region_held_drew (S := fun W => W.cell? ⟨w.heap.size + 1, 3, none⟩ = some vo ∧ W.cell? ⟨wr.heap.size, 0, none⟩ = some (.int .i64 12) ∧ W.cell? ⟨wr.heap.size, 1, none⟩ = some (.int .i64 kind) ∧ W.cell? ⟨wr.heap.size, 2, none⟩ = some (.int .u64 u) ∧ W.cell? ⟨wr.heap.size, 3, none⟩ = some (.string b)) (by kernel_rfl) ⟨q2, p0, p1, p2, p3⟩ (fun hHeld => ?_)
            refine wpAnyH_take (i := 0) (v := ?_) rfl (by kernel_rfl) (by kernel_rfl) (by kernel_rfl) (fun _ _ _ h => h) (Or.inl ⟨by rfl, ?_⟩) (by assumption) ?_
            rotate_left
            · first | (intro w hSw; (try dsimp only at hSw); go_simp; done) | (intro w hSw; (try dsimp only at hSw); go_simp; with_reducible rfl)
            try simp only [Act.put, List.getElem_toArray, List.getElem_cons_zero, List.setIfInBounds_toArray, List.set_cons_zero, List.set_cons_succ]
            refine wpAnyH_take (i := 1) (v := ?_) rfl (by kernel_rfl) (by kernel_rfl) (by kernel_rfl) (fun _ _ _ h => h) (Or.inl ⟨by rfl, ?_⟩) (by assumption) ?_
            rotate_left
            · first | (intro w hSw; (try dsimp only at hSw); go_simp; done) | (intro w hSw; (try dsimp only at hSw); go_simp; with_reducible rfl)
            try simp only [Act.put, List.getElem_toArray, List.getElem_cons_zero, List.getElem_cons_succ, List.setIfInBounds_toArray, List.set_cons_zero, List.set_cons_succ]
            refine wpAnyH_take (i := 2) (v := ?_) rfl (by kernel_rfl) (by kernel_rfl) (by kernel_rfl) (fun _ _ _ h => h) (Or.inl ⟨by rfl, ?_⟩) (by assumption) ?_
            rotate_left
            · first | (intro w hSw; (try dsimp only at hSw); go_simp; done) | (intro w hSw; (try dsimp only at hSw); go_simp; with_reducible rfl)
            try simp only [Act.put, List.getElem_toArray, List.getElem_cons_zero, List.getElem_cons_succ, List.setIfInBounds_toArray, List.set_cons_zero, List.set_cons_succ]
            refine wpAnyH_ready (rs := [3]) (by kernel_rfl) (by simp) ?_
            refine AllReadyH.cons rfl (fun K hK => ?_) AllReadyH.nil
            go_simp
            go_at_call 52
            refine (HC.out _).mono ?_
            rintro e w5 ⟨rfl, hb5⟩
            exact ⟨rfl, graph_no ((below_drewN Hbwa.out 1).trans (hb5.mono Hbwa.out.size)) (HE.out 3 Hst.out)⟩
        have e1 : (num == 1) = false := by simpa using h1
        have e2 : (num == 2) = false := by simpa using h2
        have e5 : (num == 5) = false := by simpa using h5
        have e11 : (num == 11) = false := by simpa using h11
        have e12 : (num == 12) = false := by simpa using h12
        have Hst := Lib.hid (show gStep a ⟨num, kind, u, b⟩ = .ok a by simp [gStep, h1, h2, h5, h11, h12])
        go_wp2
        go_roundw
        case rel => exact ⟨k + 1, by omega, by go_num, a, vn, vi, vo, vt, lab, HR.out.trans Hst.out, HVa.out⟩
        case measure => simp [intOf]; omega
      · obtain rfl : k = l.length := by omega
        have hall : runF gStep gNone l = .ok a := by have := Hrun.out; rw [List.take_length] at this; exact this
        have hten : graphE s = gEnd a := by unfold graphE; rw [HL.out]; simp only []; rw [hall]
        have Hten := Lib.hid hten
        have Hbw := Lib.hid (show Below w.heap.size w wr from Hb1.out.trans (HV.out.only.below (by omega) (by omega)))
        have HGr := Lib.hid ((HV.out.only.block w.heap.size (by omega) (by omega)).trans HG1.out)
        obtain ⟨An, cn, hn_⟩ := HV.out.on.form
        subst hn_
        obtain ⟨Ai, ci, hi⟩ := HV.out.oi.form
        subst hi
        obtain ⟨Ao, co, ho⟩ := HV.out.oo.form
        subst ho
        obtain ⟨At_, ct, ht⟩ := HV.out.ot.form
        subst ht
        have q0 : wr.cell? ⟨w.heap.size + 1, 0, none⟩ = some (.string a.name) := cell_of_row _ _ 0 _ 34 (0, 0) HV.out.t
        have q1 : wr.cell? ⟨w.heap.size + 1, 1, none⟩ = some (.slice An a.nodes.length cn) := cell_of_row _ _ 1 _ 34 (0, 0) HV.out.t
        have q2 : wr.cell? ⟨w.heap.size + 1, 2, none⟩ = some (.slice Ai a.ins.length ci) := cell_of_row _ _ 2 _ 34 (0, 0) HV.out.t
        have q3 : wr.cell? ⟨w.heap.size + 1, 3, none⟩ = some (.slice Ao a.outs.length co) := cell_of_row _ _ 3 _ 34 (0, 0) HV.out.t
        have q4 : wr.cell? ⟨w.heap.size + 1, 4, none⟩ = some (.slice At_ a.inits.length ct) := cell_of_row _ _ 4 _ 34 (0, 0) HV.out.t
        have HFw := Lib.hid (few_any a.name An Ai Ao At_ a.nodes.length cn a.ins.length ci a.outs.length co a.inits.length ct wr (by omega))
        clear hall hten
        go_wp2_with fail
        refine HFw.out.mono ?_
        rintro e w4 ⟨rfl, hb4⟩
        have HV4 := Lib.hid (HV.out.below hb4)
        have Hbw4 := Lib.hid (Hbw.out.trans (hb4.mono Hbw.out.size))
        have hgr4 := (hb4.block w.heap.size (by omega)).trans HGr.out
        have HGr4 := Lib.hid hgr4
        have s0 : w4.cell? ⟨w.heap.size + 1, 0, none⟩ = some (.string a.name) := cell_of_row _ _ 0 _ 34 (0, 0) HV4.out.t
        have s1 : w4.cell? ⟨w.heap.size + 1, 1, none⟩ = some (.slice An a.nodes.length cn) := cell_of_row _ _ 1 _ 34 (0, 0) HV4.out.t
        have s2 : w4.cell? ⟨w.heap.size + 1, 2, none⟩ = some (.slice Ai a.ins.length ci) := cell_of_row _ _ 2 _ 34 (0, 0) HV4.out.t
        have s3 : w4.cell? ⟨w.heap.size + 1, 3, none⟩ = some (.slice Ao a.outs.length co) := cell_of_row _ _ 3 _ 34 (0, 0) HV4.out.t
        have s4 : w4.cell? ⟨w.heap.size + 1, 4, none⟩ = some (.slice At_ a.inits.length ct) := cell_of_row _ _ 4 _ 34 (0, 0) HV4.out.t
        have r0 : w4.cell? ⟨w.heap.size, 0, none⟩ = some (.string ⟨#[]⟩) := cell_of_row _ _ 0 _ 34 (0, 0) hgr4
        have r1 : w4.cell? ⟨w.heap.size, 1, none⟩ = some (.slice none 0 0) := cell_of_row _ _ 1 _ 34 (0, 0) hgr4
        have r2 : w4.cell? ⟨w.heap.size, 2, none⟩ = some (.slice none 0 0) := cell_of_row _ _ 2 _ 34 (0, 0) hgr4
        have r3 : w4.cell? ⟨w.heap.size, 3, none⟩ = some (.slice none 0 0) := cell_of_row _ _ 3 _ 34 (0, 0) hgr4
        have r4 : w4.cell? ⟨w.heap.size, 4, none⟩ = some (.slice none 0 0) := cell_of_row _ _ 4 _ 34 (0, 0) hgr4
        have hf : ∀ i, w4.frozen? ⟨w.heap.size, i, none⟩ = false := fun i => by simp [World.frozen?, hgr4]
        have h0 := hf 0
        have h1 := hf 1
        have h2 := hf 2
        have h3 := hf 3
        have h4 := hf 4
        have z4 := HV4.out.only.size
        clear hf hgr4 hb4
        cases hsh : fewB a.name.size a.nodes.length a.ins.length a.outs.length a.inits.length with
        | false =>
          have Hno := Lib.hid (show graphE s = .error 6 by rw [Hten.out]; unfold gEnd fewG; rw [hsh]; rfl)
          clear hsh
          go_wp2_with fail
          refine (must_no _ _).mono ?_
          rintro e w3 ⟨rfl, rfl⟩
          exact ⟨rfl, graph_no Hbw4.out Hno.out⟩
        | true =>
          have Hyes := Lib.hid (show graphE s = .ok a by rw [Hten.out]; unfold gEnd fewG; rw [hsh]; rfl)
          clear hsh
          go_wp2_with fail
          refine (must_yes _ _).mono ?_
          rintro e w3 ⟨rfl, rfl⟩
          go_wp2
          obtain ⟨G5, B5, R5⟩ := fin_row repGr HGr4.out (by simp [putAll]) Hbw4.out (Nat.le_refl _) HV4.out.rep (fun k hk => ⟨by omega, by omega, hk.2⟩)
          refine bodyPost_ret (results_cell_row rfl _ _ w.heap.size 34 _ (0, 0) _ rfl G5 Try.underlying34 rfl (by kernel_rfl)) rfl ?_
          exact ⟨B5, .inl ⟨_, _, Hyes.out, rfl, R5⟩⟩
  · exact ⟨rfl, graph_no (HB0.out.trans (hb1.mono HB0.out.size)) (by unfold graphE; rw [he])⟩
end Go.Proofs.Ytkcnpnnflbibiaa

