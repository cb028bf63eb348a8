/- The walks: a node read. -/
import Derived.Test.YtkcnpnnflbibiaaDb
import Derived.Deep.RegionLaw
import Derived.BigRegion
import Derived.Deep.Cut
import Derived.Deep.CutBlock
set_option linter.unusedVariables false
namespace Go.Proofs.Ytkcnpnnflbibiaa
open Go.RowKit

/-- What attribute returns, its cells laid open. -/
def AttrYes (x : At) (w : World) (e : Ending) (w' : World) : Prop := ∃ Ad nd cd Ae ne ce Ag ng cg, e = .returned (.agg #[.string x.name, .int .i64 x.kind, .int .i64 x.f, .int .i64 x.i, .string x.s, .int .i64 x.t.typ, .slice Ad nd cd, .slice Ae ne ce, .slice Ag ng cg]) ∧ Below w.heap.size w w' ∧
  repAt.R w' (fun k => w.heap.size ≤ k ∧ k < w'.heap.size) [.string x.name, .int .i64 x.kind, .int .i64 x.f, .int .i64 x.i, .string x.s, .int .i64 x.t.typ, .slice Ad nd cd, .slice Ae ne ce, .slice Ag ng cg] x
theorem attr_yes {b : ByteArray} {x : At} (h : attrE b = .ok x) (hs : b.size ≤ 140737488351232) (w : World) : Calls Try.prog 72 #[.string b] w (AttrYes x w) := (attr_any b w hs).mono fun e w' h2 => by
  rcases h2.2 with ⟨t, cs, h1, rfl, hR⟩ | ⟨err, h1, _⟩
  · rw [h] at h1; cases h1
    obtain ⟨d, e, g, rfl, h3, h4, h5⟩ := hR
    obtain ⟨Ad, nd, cd, rfl, _⟩ := id h3
    obtain ⟨Ae, ne, ce, rfl, _⟩ := id h4
    obtain ⟨Ag, ng, cg, rfl, _⟩ := id h5
    exact ⟨Ad, nd, cd, Ae, ne, ce, Ag, ng, cg, rfl, h2.1, _, _, _, rfl, h3, h4, h5⟩
  · rw [h] at h1; cases h1
theorem attr_bad {b : ByteArray} {err : Int} (h : attrE b = .error err) (hs : b.size ≤ 140737488351232) (w : World) : Calls Try.prog 72 #[.string b] w fun e w' => e = .panicked (refu err) ∧ Below w.heap.size w w' := (attr_any b w hs).mono fun e w' h2 => by
  rcases h2.2 with ⟨t, cs, h1, _⟩ | ⟨err', h1, h3⟩
  · rw [h] at h1; cases h1
  · rw [h] at h1; cases h1; exact ⟨h3, h2.1⟩
set_option maxRecDepth 100000 in
set_option maxHeartbeats 6400000 in
theorem node_any (s : ByteArray) (w : World) (hs : s.size ≤ 140737488351232) : Calls Try.prog 53 #[.string s] w (NodeIs s w) := by
  have hb0 : Below w.heap.size w ((w.alloc (.cells #[.string ⟨#[]⟩, .string ⟨#[]⟩, .slice none 0 0, .string ⟨#[]⟩, .slice none 0 0] 67)).alloc (.cells #[.string ⟨#[]⟩, .string ⟨#[]⟩, .slice none 0 0, .string ⟨#[]⟩, .slice none 0 0] 67)) := ((Below.refl _ _).alloc (Nat.le_refl _) _).alloc (by simp) _
  have hgr := (Below.heap_alloc (w.alloc (.cells #[.string ⟨#[]⟩, .string ⟨#[]⟩, .slice none 0 0, .string ⟨#[]⟩, .slice none 0 0] 67)) (.cells #[.string ⟨#[]⟩, .string ⟨#[]⟩, .slice none 0 0, .string ⟨#[]⟩, .slice none 0 0] 67) w.heap.size (by simp)).trans (heap_alloc_new w (.cells #[.string ⟨#[]⟩, .string ⟨#[]⟩, .slice none 0 0, .string ⟨#[]⟩, .slice none 0 0] 67))
  have hgn := heap_second w (.cells #[.string ⟨#[]⟩, .string ⟨#[]⟩, .slice none 0 0, .string ⟨#[]⟩, .slice none 0 0] 67) (.cells #[.string ⟨#[]⟩, .string ⟨#[]⟩, .slice none 0 0, .string ⟨#[]⟩, .slice none 0 0] 67) (w.heap.size + 1) rfl
  have hz0 : ((w.alloc (.cells #[.string ⟨#[]⟩, .string ⟨#[]⟩, .slice none 0 0, .string ⟨#[]⟩, .slice none 0 0] 67)).alloc (.cells #[.string ⟨#[]⟩, .string ⟨#[]⟩, .slice none 0 0, .string ⟨#[]⟩, .slice none 0 0] 67)).heap.size = w.heap.size + 2 := by simp
  have HGr := Lib.hid hgr
  have HGn := Lib.hid hgn
  have HB0 := Lib.hid hb0
  have HZ0 := Lib.hid hz0
  have HT := Lib.hid (fields_any s ((w.alloc (.cells #[.string ⟨#[]⟩, .string ⟨#[]⟩, .slice none 0 0, .string ⟨#[]⟩, .slice none 0 0] 67)).alloc (.cells #[.string ⟨#[]⟩, .string ⟨#[]⟩, .slice none 0 0, .string ⟨#[]⟩, .slice none 0 0] 67)) hs)
  obtain ⟨i9, hi9, hz90, hz91, hz92⟩ := info_parts Try.info9
  obtain ⟨i88, hi88, hz880, hz881, hz882⟩ := info_parts Try.info88
  have HI9 := Lib.hid (show _ ∧ _ ∧ _ ∧ _ from ⟨hi9, hz90, hz91, hz92⟩)
  have HI88 := Lib.hid (show _ ∧ _ ∧ _ ∧ _ from ⟨hi88, hz880, hz881, hz882⟩)
  clear hgr hgn hb0 hz0 hi9 hz90 hz91 hz92 hi88 hz880 hz881 hz882
  go_enter Try.func53, Try.ntmps53
  go_wp2_with fail
  refine HT.out.mono ?_
  rintro e w1 ⟨hb1, ⟨l, A, c, hl, rfl, hof⟩ | ⟨err, he, rfl⟩⟩
  · have z1 : w.heap.size + 2 ≤ w1.heap.size := by have := hb1.size; rw [HZ0.out] at this; exact this
    have Hb1 := Lib.hid (HB0.out.trans (hb1.mono HB0.out.size))
    have hgr1 := (hb1.block w.heap.size (by rw [HZ0.out]; omega)).trans HGr.out
    have hgn1 := (hb1.block (w.heap.size + 1) (by rw [HZ0.out]; omega)).trans HGn.out
    have HG1 := Lib.hid hgr1
    have HI := Lib.hid (show NInv w1 w1 (w.heap.size + 1) .none (.slice none 0 0) (.slice none 0 0) (.slice none 0 0) (fun _ => 0) from ⟨by omega, Only.refl _ _, hgn1, ol_nil _ _ _ _ _ _, ol_nil _ _ _ _ _ _, ol_nil _ _ _ _ _ _, fresh_none _, fun _ _ => rfl⟩)
    have hn : l.length ≤ 9223372036854775807 := hof.2
    have hfb : 0 < l.length → ∃ g, A = some ⟨g, 0, none⟩ ∧ w.heap.size + 2 ≤ g ∧ g < w1.heap.size := fun hn => by
      obtain ⟨g, cap, e, h1, h2⟩ := World.ownsRow.form hof.1 hn
      simp only [Value.slice.injEq] at e
      exact ⟨g, e.1, by rw [HZ0.out] at h1; exact h1, h2⟩
    have Hfb := Lib.hid hfb
    have Hfl := Lib.hid (hof.flds rfl)
    have Hk := Lib.hid (fldsE_ok hl)
    have HL := Lib.hid hl
    clear hof hfb hb1 hgr1 hgn1 hl HT HGr HGn HB0 HZ0
    go_wp2_with fail
    go_loopw [4, 5, 11] (fun v4 v5 i wr => ∃ k : Nat, k ≤ l.length ∧ i = .int .i64 k ∧ ∃ a vi va lab, runF nStep .none (l.take k) = .ok a ∧ v5 = .string a.domain ∧ NInv w1 wr (w.heap.size + 1) a vi v4 va lab) (fun _ _ i _ => l.length - (intOf i).toNat)
    case atStart => exact ⟨0, by omega, rfl, .none, _, _, _, rfl, rfl, HI.out⟩
    case round =>
      obtain ⟨k, hk, rfl, a, vi, va, lab, hrun, rfl, hinv⟩ := hrel
      rename_i vo _
      have Hrun := Lib.hid hrun
      have HV := Lib.hid hinv
      have zr := hinv.only.size
      have hwl := wt_mono l k
      have hws := Hk.out.2.2.2.2
      have hsz := Hk.out.2.1
      obtain ⟨hil, hol, hal⟩ := n_lens _ _ _ hrun
      have hn0 : NAcc.none.ins.length = 0 := rfl
      have hn1 : NAcc.none.outs.length = 0 := rfl
      have hn2 : NAcc.none.attrs.length = 0 := rfl
      rw [hn0] at hil
      rw [hn1] at hol
      rw [hn2] at hal
      obtain ⟨Ao, co, ho⟩ := hinv.oo.form
      subst ho
      clear hrun hinv hn0 hn1 hn2
      by_cases hlt : k < l.length
      · obtain ⟨f, hf⟩ : ∃ f, l[k]? = some f := ⟨_, List.getElem?_eq_getElem hlt⟩
        obtain ⟨g, rfl, hg1, hg2⟩ := Hfb.out (by omega)
        obtain ⟨b1, o1, e1, hb1, hc1⟩ := Hfl.out.at_ (by omega)
        simp only [Option.some.injEq, Addr.mk.injEq, and_true] at e1
        obtain ⟨rfl, rfl⟩ := e1
        obtain ⟨x0, x1, x2, x3⟩ := hc1 k f hf
        have hkp : ∀ i, wr.cell? ⟨g, i, none⟩ = w1.cell? ⟨g, i, none⟩ := fun i => World.cell?_of_block (a := ⟨g, i, none⟩) (HV.out.only.block g hg2 (by omega))
        rw [Nat.mul_comm 4 k, Nat.zero_add, ← hkp] at x0 x1 x2 x3
        have hwk := wt_take l k f hf
        have hwm := wt_mono l (k + 1)
        have HE := Lib.hid (fun e => nodeE_bad (s := s) (e := e) HL.out hf Hrun.out)
        have HR := Lib.hid (runF_take nStep .none l k f hf a Hrun.out)
        clear hc1 hf hkp
        obtain ⟨num, kind, u, b⟩ := f
        dsimp only at x0 x1 x2 x3 hwk
        have hbz : b.size ≤ 16777216 := by omega
        have HVa := Lib.hid (HV.out.alloc (.cells #[.int .i64 num, .int .i64 kind, .int .u64 u, .string b] 24))
        have Hbwa := Lib.hid (show Below w.heap.size w (wr.alloc (.cells #[.int .i64 num, .int .i64 kind, .int .u64 u, .string b] 24)) from Hb1.out.trans (HVa.out.only.below (by omega) (by omega)))
        by_cases h1 : num = 1
        · subst h1
          have p0 : (wr.alloc (.cells #[.int .i64 1, .int .i64 kind, .int .u64 u, .string b] 24)).cell? ⟨wr.heap.size, 0, none⟩ = some (.int .i64 1) := cell_of_row _ _ 0 _ 24 (0, 0) (heap_alloc_new wr _)
          have p1 : (wr.alloc (.cells #[.int .i64 1, .int .i64 kind, .int .u64 u, .string b] 24)).cell? ⟨wr.heap.size, 1, none⟩ = some (.int .i64 kind) := cell_of_row _ _ 1 _ 24 (0, 0) (heap_alloc_new wr _)
          have p2 : (wr.alloc (.cells #[.int .i64 1, .int .i64 kind, .int .u64 u, .string b] 24)).cell? ⟨wr.heap.size, 2, none⟩ = some (.int .u64 u) := cell_of_row _ _ 2 _ 24 (0, 0) (heap_alloc_new wr _)
          have p3 : (wr.alloc (.cells #[.int .i64 1, .int .i64 kind, .int .u64 u, .string b] 24)).cell? ⟨wr.heap.size, 3, none⟩ = some (.string b) := cell_of_row _ _ 3 _ 24 (0, 0) (heap_alloc_new wr _)
          have wl0 : wr.heap.size < (wr.alloc (.cells #[.int .i64 1, .int .i64 kind, .int .u64 u, .string b] 24)).heap.size := by simp
          have q2 : (wr.alloc (.cells #[.int .i64 1, .int .i64 kind, .int .u64 u, .string b] 24)).cell? ⟨w.heap.size + 1, 2, none⟩ = some vi := cell_of_row _ _ 2 _ 67 (0, 0) HVa.out.t
          have qf : (wr.alloc (.cells #[.int .i64 1, .int .i64 kind, .int .u64 u, .string b] 24)).frozen? ⟨w.heap.size + 1, 2, none⟩ = false := by simp [World.frozen?, HVa.out.t]
          have gl0 : w.heap.size + 1 < (wr.alloc (.cells #[.int .i64 1, .int .i64 kind, .int .u64 u, .string b] 24)).heap.size := Nat.lt_of_lt_of_le HVa.out.lt HVa.out.only.size
          by_cases hkd : kind = 2
          · subst hkd
            have HC0 := fun w => text_yes 1 u b w
            unfold Fd.val at HC0
            have HC := Lib.hid HC0
            clear HC0
            have Hst := Lib.hid (show nStep a ⟨1, 2, u, b⟩ = .ok { a with ins := a.ins ++ [b] } by simp [nStep])
            go_wp2_with fail
            generalize (wr.alloc (.cells #[.int .i64 1, .int .i64 2, .int .u64 u, .string b] 24)) = W0 at p0 p1 p2 p3 q2 qf wl0 gl0 HVa Hbwa ⊢
            have hbd : Below W0.heap.size W0 (W0.drewN 1) := below_drewN (Below.refl _ _) 1
            have HVd := Lib.hid (HVa.out.below hbd)
            have w4W := HVa.out.only.size
            clear hbd
            first | (go_region_law (first
              | (go_simp; go_at_call 52; refine (HC.out _).mono ?_; rintro e w5 ⟨rfl, hb5⟩; have q25 : w5.cell? ⟨w.heap.size + 1, 2, none⟩ = some vi := (hb5.cell (by exact gl0)).trans q2; have HV5 := Lib.hid (HVd.out.below hb5); have gl5 : w.heap.size + 1 < w5.heap.size := Nat.lt_of_lt_of_le gl0 hb5.size; have w45 : w1.heap.size ≤ w5.heap.size := Nat.le_trans w4W hb5.size; clear hb5;have q2a : (w5.alloc (.cells #[.string b] 9)).cell? ⟨w.heap.size + 1, 2, none⟩ = some vi := (World.cell?_alloc_lt w5 _ _ gl5).trans q25; dsimp only)
              | (refine step_append_o w5 repStr b [.string b] rfl (.tmp 20) (.tmp 23) 64 rfl 9 i9 _ 16 Try.underlying64 HI9.out.1 HI9.out.2.1 HI9.out.2.2.1 HI9.out.2.2.2 rfl (by decide) (by decide) lab 1 (by decide) w1.heap.size vi a.ins rfl HV5.out.oi HV5.out.fr rfl w5.heap.size rfl rfl (by omega) w45 ?_; intro v' w7 lab' ho7 hg7; obtain ⟨Aw, mw, cw, hvw⟩ : ∃ A m c, v' = .slice A m c := (by obtain ⟨A, c, e⟩ := OL.form ho7; exact ⟨A, _, c, e⟩); subst hvw; have t7 := HV5.out.t_grown (by decide) hg7; have q27 : w7.cell? ⟨w.heap.size + 1, 2, none⟩ = some vi := cell_of_row _ _ 2 _ 67 (0, 0) t7; have qf7 : w7.frozen? ⟨w.heap.size + 1, 2, none⟩ = false := (by simp [World.frozen?, t7]); have HI7 := Lib.hid (HV5.out.moreI hg7 ho7); clear t7 ho7 hg7))) | fail
            all_goals
              go_wp2_with fail
              go_roundw
              case rel => exact ⟨k + 1, by omega, by go_num, { a with ins := a.ins ++ [b] }, _, _, _, HR.out.trans Hst.out, rfl, HI7.out⟩
              case measure => simp [intOf]; omega
          · have Hst := Lib.hid (show nStep a ⟨1, kind, u, b⟩ = .error 3 by simp [nStep, hkd])
            have HC0 := fun w => text_no 1 kind u b w hkd
            unfold Fd.val at HC0
            have HC := Lib.hid HC0
            clear HC0
            go_wp2_with fail
            generalize (wr.alloc (.cells #[.int .i64 1, .int .i64 kind, .int .u64 u, .string b] 24)) = W0 at p0 p1 p2 p3 q2 qf wl0 gl0 HVa Hbwa ⊢
            refine wp_region_held_drew (S := fun W => W.cell? ⟨w.heap.size + 1, 2, none⟩ = some vi ∧ W.cell? ⟨wr.heap.size, 0, none⟩ = some (.int .i64 1) ∧ W.cell? ⟨wr.heap.size, 1, none⟩ = some (.int .i64 kind) ∧ W.cell? ⟨wr.heap.size, 2, none⟩ = some (.int .u64 u) ∧ W.cell? ⟨wr.heap.size, 3, none⟩ = some (.string b)) (by kernel_rfl) ⟨q2, p0, p1, p2, p3⟩ (fun hHeld => ?_)
            refine wpAnyH_take (i := 0) (v := ?_) rfl (by kernel_rfl) (by kernel_rfl) (by kernel_rfl) (fun _ _ _ h => h) (Or.inl ⟨by rfl, ?_⟩) (by assumption) ?_
            rotate_left
            · first | (intro w hSw; (try dsimp only at hSw); go_simp; done) | (intro w hSw; (try dsimp only at hSw); go_simp; with_reducible rfl)
            try simp only [Act.put, List.getElem_toArray, List.getElem_cons_zero, List.setIfInBounds_toArray, List.set_cons_zero, List.set_cons_succ]
            refine wpAnyH_take (i := 1) (v := ?_) rfl (by kernel_rfl) (by kernel_rfl) (by kernel_rfl) (fun _ _ _ h => h) (Or.inl ⟨by rfl, ?_⟩) (by assumption) ?_
            rotate_left
            · first | (intro w hSw; (try dsimp only at hSw); go_simp; done) | (intro w hSw; (try dsimp only at hSw); go_simp; with_reducible rfl)
            try simp only [Act.put, List.getElem_toArray, List.getElem_cons_zero, List.getElem_cons_succ, List.setIfInBounds_toArray, List.set_cons_zero, List.set_cons_succ]
            refine wpAnyH_take (i := 2) (v := ?_) rfl (by kernel_rfl) (by kernel_rfl) (by kernel_rfl) (fun _ _ _ h => h) (Or.inl ⟨by rfl, ?_⟩) (by assumption) ?_
            rotate_left
            · first | (intro w hSw; (try dsimp only at hSw); go_simp; done) | (intro w hSw; (try dsimp only at hSw); go_simp; with_reducible rfl)
            try simp only [Act.put, List.getElem_toArray, List.getElem_cons_zero, List.getElem_cons_succ, List.setIfInBounds_toArray, List.set_cons_zero, List.set_cons_succ]
            refine wpAnyH_ready (rs := [3]) (by kernel_rfl) (by simp) ?_
            refine AllReadyH.cons rfl (fun K hK => ?_) AllReadyH.nil
            go_simp
            go_at_call 52
            refine (HC.out _).mono ?_
            rintro e w5 ⟨rfl, hb5⟩
            exact ⟨rfl, node_no ((below_drewN Hbwa.out 1).trans (hb5.mono Hbwa.out.size)) (HE.out 3 Hst.out)⟩
        by_cases h2 : num = 2
        · subst h2
          by_cases hkd : kind = 2
          · subst hkd
            have Hst := Lib.hid (show nStep a ⟨2, 2, u, b⟩ = .ok { a with outs := a.outs ++ [b] } by simp [nStep])
            have HC := Lib.hid (fun w => text_yes 2 u b w)
            unfold Fd.val at HC
            go_wp2_with fail
            refine (HC.out _).mono ?_
            rintro e w3 ⟨rfl, hb3⟩
            have HW := Lib.hid (HVa.out.below hb3)
            have w43 : w1.heap.size ≤ w3.heap.size := HW.out.only.size
            clear hb3
            go_wp2_with (at_builtin; refine wpList_append_o w3 repStr b [.string b] rfl (.tmp 28) (.tmp 31) 64 rfl 9 i9 _ 16 Try.underlying64 HI9.out.1 HI9.out.2.1 HI9.out.2.2.1 HI9.out.2.2.2 rfl (by decide) (by decide) lab 2 (by decide) w1.heap.size _ a.outs rfl HW.out.oo HW.out.fr rfl w3.heap.size rfl rfl (by omega) w43 ?_; intro v' w7 lab' ho7 hg7)
            have HI7 := Lib.hid (HW.out.moreO hg7 ho7)
            clear ho7 hg7
            go_roundw
            case rel => exact ⟨k + 1, by omega, by go_num, { a with outs := a.outs ++ [b] }, _, _, _, HR.out.trans Hst.out, rfl, HI7.out⟩
            case measure => simp [intOf]; omega
          · have Hst := Lib.hid (show nStep a ⟨2, kind, u, b⟩ = .error 3 by simp [nStep, hkd])
            have HC := Lib.hid (fun w => text_no 2 kind u b w hkd)
            unfold Fd.val at HC
            go_wp2_with fail
            refine (HC.out _).mono ?_
            rintro e w3 ⟨rfl, hb3⟩
            exact ⟨rfl, node_no (Hbwa.out.trans (hb3.mono Hbwa.out.size)) (HE.out 3 Hst.out)⟩
        by_cases h3 : num = 3
        · subst h3
          by_cases hkd : kind = 2
          · subst hkd
            have Hst := Lib.hid (show nStep a ⟨3, 2, u, b⟩ = .ok { a with name := b } by simp [nStep])
            have HC := Lib.hid (fun w => text_yes 3 u b w)
            unfold Fd.val at HC
            go_wp2_with fail
            refine (HC.out _).mono ?_
            rintro e w3 ⟨rfl, hb3⟩
            have HW := Lib.hid (HVa.out.below hb3)
            have hc3 : w3.cell? ⟨w.heap.size + 1, 1, none⟩ = some (.string a.name) := cell_of_row _ _ 1 _ 67 (0, 0) HW.out.t
            have hf3 : w3.frozen? ⟨w.heap.size + 1, 1, none⟩ = false := by simp [World.frozen?, HW.out.t]
            have HI3 := Lib.hid (HW.out.set_ { a with name := b } 1 (.string b) rfl rfl rfl rfl)
            clear hb3
            go_wp2
            go_roundw
            case rel => exact ⟨k + 1, by omega, by go_num, { a with name := b }, vi, va, lab, HR.out.trans Hst.out, rfl, HI3.out⟩
            case measure => simp [intOf]; omega
          · have Hst := Lib.hid (show nStep a ⟨3, kind, u, b⟩ = .error 3 by simp [nStep, hkd])
            have HC := Lib.hid (fun w => text_no 3 kind u b w hkd)
            unfold Fd.val at HC
            go_wp2_with fail
            refine (HC.out _).mono ?_
            rintro e w3 ⟨rfl, hb3⟩
            exact ⟨rfl, node_no (Hbwa.out.trans (hb3.mono Hbwa.out.size)) (HE.out 3 Hst.out)⟩
        by_cases h4 : num = 4
        · subst h4
          by_cases hkd : kind = 2
          · subst hkd
            have Hst := Lib.hid (show nStep a ⟨4, 2, u, b⟩ = .ok { a with op := b } by simp [nStep])
            have HC := Lib.hid (fun w => text_yes 4 u b w)
            unfold Fd.val at HC
            go_wp2_with fail
            refine (HC.out _).mono ?_
            rintro e w3 ⟨rfl, hb3⟩
            have HW := Lib.hid (HVa.out.below hb3)
            have hc3 : w3.cell? ⟨w.heap.size + 1, 0, none⟩ = some (.string a.op) := cell_of_row _ _ 0 _ 67 (0, 0) HW.out.t
            have hf3 : w3.frozen? ⟨w.heap.size + 1, 0, none⟩ = false := by simp [World.frozen?, HW.out.t]
            have HI3 := Lib.hid (HW.out.set_ { a with op := b } 0 (.string b) rfl rfl rfl rfl)
            clear hb3
            go_wp2
            go_roundw
            case rel => exact ⟨k + 1, by omega, by go_num, { a with op := b }, vi, va, lab, HR.out.trans Hst.out, rfl, HI3.out⟩
            case measure => simp [intOf]; omega
          · have Hst := Lib.hid (show nStep a ⟨4, kind, u, b⟩ = .error 3 by simp [nStep, hkd])
            have HC := Lib.hid (fun w => text_no 4 kind u b w hkd)
            unfold Fd.val at HC
            go_wp2_with fail
            refine (HC.out _).mono ?_
            rintro e w3 ⟨rfl, hb3⟩
            exact ⟨rfl, node_no (Hbwa.out.trans (hb3.mono Hbwa.out.size)) (HE.out 3 Hst.out)⟩
        by_cases h5 : num = 5
        · subst h5
          have p0 : (wr.alloc (.cells #[.int .i64 5, .int .i64 kind, .int .u64 u, .string b] 24)).cell? ⟨wr.heap.size, 0, none⟩ = some (.int .i64 5) := cell_of_row _ _ 0 _ 24 (0, 0) (heap_alloc_new wr _)
          have p1 : (wr.alloc (.cells #[.int .i64 5, .int .i64 kind, .int .u64 u, .string b] 24)).cell? ⟨wr.heap.size, 1, none⟩ = some (.int .i64 kind) := cell_of_row _ _ 1 _ 24 (0, 0) (heap_alloc_new wr _)
          have p2 : (wr.alloc (.cells #[.int .i64 5, .int .i64 kind, .int .u64 u, .string b] 24)).cell? ⟨wr.heap.size, 2, none⟩ = some (.int .u64 u) := cell_of_row _ _ 2 _ 24 (0, 0) (heap_alloc_new wr _)
          have p3 : (wr.alloc (.cells #[.int .i64 5, .int .i64 kind, .int .u64 u, .string b] 24)).cell? ⟨wr.heap.size, 3, none⟩ = some (.string b) := cell_of_row _ _ 3 _ 24 (0, 0) (heap_alloc_new wr _)
          have wl0 : wr.heap.size < (wr.alloc (.cells #[.int .i64 5, .int .i64 kind, .int .u64 u, .string b] 24)).heap.size := by simp
          have q2 : (wr.alloc (.cells #[.int .i64 5, .int .i64 kind, .int .u64 u, .string b] 24)).cell? ⟨w.heap.size + 1, 4, none⟩ = some va := cell_of_row _ _ 4 _ 67 (0, 0) HVa.out.t
          have qf : (wr.alloc (.cells #[.int .i64 5, .int .i64 kind, .int .u64 u, .string b] 24)).frozen? ⟨w.heap.size + 1, 4, none⟩ = false := by simp [World.frozen?, HVa.out.t]
          have gl0 : w.heap.size + 1 < (wr.alloc (.cells #[.int .i64 5, .int .i64 kind, .int .u64 u, .string b] 24)).heap.size := Nat.lt_of_lt_of_le HVa.out.lt HVa.out.only.size
          by_cases hkd : kind = 2
          · subst hkd
            have HC0 := fun w => text_yes 5 u b w
            unfold Fd.val at HC0
            have HC := Lib.hid HC0
            clear HC0
            cases hd : attrE b with
            | error err =>
              have Hst := Lib.hid (show nStep a ⟨5, 2, u, b⟩ = .error err by simp [nStep, hd])
              have HD := Lib.hid (fun w => attr_bad hd (by omega) w)
              clear hd
              go_wp2_with fail
              generalize (wr.alloc (.cells #[.int .i64 5, .int .i64 2, .int .u64 u, .string b] 24)) = W0 at p0 p1 p2 p3 q2 qf wl0 gl0 HVa Hbwa ⊢
              refine wp_region_held_drew (S := fun W => W.cell? ⟨w.heap.size + 1, 4, none⟩ = some va ∧ W.cell? ⟨wr.heap.size, 0, none⟩ = some (.int .i64 5) ∧ W.cell? ⟨wr.heap.size, 1, none⟩ = some (.int .i64 2) ∧ W.cell? ⟨wr.heap.size, 2, none⟩ = some (.int .u64 u) ∧ W.cell? ⟨wr.heap.size, 3, none⟩ = some (.string b)) (by kernel_rfl) ⟨q2, p0, p1, p2, p3⟩ (fun hHeld => ?_)
              refine wpAnyH_take (i := 0) (v := ?_) rfl (by kernel_rfl) (by kernel_rfl) (by kernel_rfl) (fun _ _ _ h => h) (Or.inl ⟨by rfl, ?_⟩) (by assumption) ?_
              rotate_left
              · first | (intro w hSw; (try dsimp only at hSw); go_simp; done) | (intro w hSw; (try dsimp only at hSw); go_simp; with_reducible rfl)
              try simp only [Act.put, List.getElem_toArray, List.getElem_cons_zero, List.setIfInBounds_toArray, List.set_cons_zero, List.set_cons_succ]
              refine wpAnyH_take (i := 1) (v := ?_) rfl (by kernel_rfl) (by kernel_rfl) (by kernel_rfl) (fun _ _ _ h => h) (Or.inl ⟨by rfl, ?_⟩) (by assumption) ?_
              rotate_left
              · first | (intro w hSw; (try dsimp only at hSw); go_simp; done) | (intro w hSw; (try dsimp only at hSw); go_simp; with_reducible rfl)
              try simp only [Act.put, List.getElem_toArray, List.getElem_cons_zero, List.getElem_cons_succ, List.setIfInBounds_toArray, List.set_cons_zero, List.set_cons_succ]
              refine wpAnyH_take (i := 2) (v := ?_) rfl (by kernel_rfl) (by kernel_rfl) (by kernel_rfl) (fun _ _ _ h => h) (Or.inl ⟨by rfl, ?_⟩) (by assumption) ?_
              rotate_left
              · first | (intro w hSw; (try dsimp only at hSw); go_simp; done) | (intro w hSw; (try dsimp only at hSw); go_simp; with_reducible rfl)
              try simp only [Act.put, List.getElem_toArray, List.getElem_cons_zero, List.getElem_cons_succ, List.setIfInBounds_toArray, List.set_cons_zero, List.set_cons_succ]
              refine wpAnyH_ready (rs := [3]) (by kernel_rfl) (by simp) ?_
              refine AllReadyH.cons rfl (fun K hK => ?_) AllReadyH.nil
              go_simp
              go_at_call 52
              refine (HC.out _).mono ?_
              rintro e w5 ⟨rfl, hb5⟩
              dsimp only
              refine hK.out _ _ ⟨(hb5.cell (by exact gl0)).trans q2, (hb5.cell (by exact wl0)).trans p0, (hb5.cell (by exact wl0)).trans p1, (hb5.cell (by exact wl0)).trans p2, (hb5.cell (by exact wl0)).trans p3⟩ (fun hHeld2 => ?_)
              clear hK K
              try simp only [Act.put, List.getElem_toArray, List.getElem_cons_zero, List.getElem_cons_succ, List.setIfInBounds_toArray, List.set_cons_zero, List.set_cons_succ]
              refine wpAnyH_ready (rs := [4]) (by kernel_rfl) (by simp) ?_
              refine AllReadyH.cons rfl (fun K hK => ?_) AllReadyH.nil
              go_simp
              go_at_call 72
              refine (HD.out _).mono ?_
              rintro e w6 ⟨rfl, hb6⟩
              exact ⟨rfl, node_no (((below_drewN Hbwa.out 1).trans (hb5.mono Hbwa.out.size)).trans (hb6.mono (Nat.le_trans Hbwa.out.size hb5.size))) (HE.out err Hst.out)⟩
            | ok x =>
              have Hst := Lib.hid (show nStep a ⟨5, 2, u, b⟩ = .ok { a with attrs := a.attrs ++ [x] } by simp [nStep, hd])
              have HD := Lib.hid (fun w => attr_yes hd (by omega) w)
              clear hd
              go_wp2_with fail
              generalize (wr.alloc (.cells #[.int .i64 5, .int .i64 2, .int .u64 u, .string b] 24)) = W0 at p0 p1 p2 p3 q2 qf wl0 gl0 HVa Hbwa ⊢
              have hbd : Below W0.heap.size W0 (W0.drewN 1) := below_drewN (Below.refl _ _) 1
              have HVd := Lib.hid (HVa.out.below hbd)
              have w4W := HVa.out.only.size
              clear hbd
              first | (go_region_law (first
                | (go_simp; go_at_call 52; refine (HC.out _).mono ?_; rintro e w5 ⟨rfl, hb5⟩; have q25 : w5.cell? ⟨w.heap.size + 1, 4, none⟩ = some va := (hb5.cell (by exact gl0)).trans q2; have HV5 := Lib.hid (HVd.out.below hb5); have gl5 : w.heap.size + 1 < w5.heap.size := Nat.lt_of_lt_of_le gl0 hb5.size; have w45 : w1.heap.size ≤ w5.heap.size := Nat.le_trans w4W hb5.size; clear hb5; dsimp only)
                | (go_simp; go_at_call 72; refine (HD.out _).mono ?_; rintro e w6 ⟨Ad, nd, cd, Ae, ne, ce, Ag, ng, cg, rfl, hb6, hR6⟩; have q26 : w6.cell? ⟨w.heap.size + 1, 4, none⟩ = some va := (hb6.cell (by exact gl5)).trans q25; have q2a : (w6.alloc (.cells #[.string x.name, .int .i64 x.kind, .int .i64 x.f, .int .i64 x.i, .string x.s, .int .i64 x.t.typ, .slice Ad nd cd, .slice Ae ne ce, .slice Ag ng cg] 88)).cell? ⟨w.heap.size + 1, 4, none⟩ = some va := (World.cell?_alloc_lt w6 _ _ (Nat.lt_of_lt_of_le gl5 hb6.size)).trans q26; have HV6 := Lib.hid (HV5.out.below hb6); have HR6 := rep_made (lab := lab) (lo := w1.heap.size) hR6 HV5.out.fr w45; have w46 : w1.heap.size ≤ w6.heap.size := Nat.le_trans w45 hb6.size; clear hb6 hR6; dsimp only)
                | (refine step_append_o w6 repAt x [.string x.name, .int .i64 x.kind, .int .i64 x.f, .int .i64 x.i, .string x.s, .int .i64 x.t.typ, .slice Ad nd cd, .slice Ae ne ce, .slice Ag ng cg] rfl (.tmp 46) (.tmp 50) 65 rfl 88 i88 _ 136 Try.underlying65 HI88.out.1 HI88.out.2.1 HI88.out.2.2.1 HI88.out.2.2.2 rfl (by decide) (by decide) lab 3 (by decide) w1.heap.size va a.attrs rfl HV6.out.oa HV6.out.fr HR6 w6.heap.size rfl rfl (by omega) w46 ?_; intro v' w7 lab' ho7 hg7; obtain ⟨Aw, mw, cw, hvw⟩ : ∃ A m c, v' = .slice A m c := (by obtain ⟨A, c, e⟩ := OL.form ho7; exact ⟨A, _, c, e⟩); subst hvw; have t7 := HV6.out.t_grown (by decide) hg7; have q27 : w7.cell? ⟨w.heap.size + 1, 4, none⟩ = some va := cell_of_row _ _ 4 _ 67 (0, 0) t7; have qf7 : w7.frozen? ⟨w.heap.size + 1, 4, none⟩ = false := (by simp [World.frozen?, t7]); have HI7 := Lib.hid (HV6.out.moreA hg7 ho7); clear t7 ho7 hg7))) | fail
              all_goals
                go_wp2_with fail
                go_roundw
                case rel => exact ⟨k + 1, by omega, by go_num, { a with attrs := a.attrs ++ [x] }, _, _, _, HR.out.trans Hst.out, rfl, HI7.out⟩
                case measure => simp [intOf]; omega
          · have Hst := Lib.hid (show nStep a ⟨5, kind, u, b⟩ = .error 3 by simp [nStep, hkd])
            have HC0 := fun w => text_no 5 kind u b w hkd
            unfold Fd.val at HC0
            have HC := Lib.hid HC0
            clear HC0
            go_wp2_with fail
            generalize (wr.alloc (.cells #[.int .i64 5, .int .i64 kind, .int .u64 u, .string b] 24)) = W0 at p0 p1 p2 p3 q2 qf wl0 gl0 HVa Hbwa ⊢
            refine wp_region_held_drew (S := fun W => W.cell? ⟨w.heap.size + 1, 4, none⟩ = some va ∧ W.cell? ⟨wr.heap.size, 0, none⟩ = some (.int .i64 5) ∧ W.cell? ⟨wr.heap.size, 1, none⟩ = some (.int .i64 kind) ∧ W.cell? ⟨wr.heap.size, 2, none⟩ = some (.int .u64 u) ∧ W.cell? ⟨wr.heap.size, 3, none⟩ = some (.string b)) (by kernel_rfl) ⟨q2, p0, p1, p2, p3⟩ (fun hHeld => ?_)
            refine wpAnyH_take (i := 0) (v := ?_) rfl (by kernel_rfl) (by kernel_rfl) (by kernel_rfl) (fun _ _ _ h => h) (Or.inl ⟨by rfl, ?_⟩) (by assumption) ?_
            rotate_left
            · first | (intro w hSw; (try dsimp only at hSw); go_simp; done) | (intro w hSw; (try dsimp only at hSw); go_simp; with_reducible rfl)
            try simp only [Act.put, List.getElem_toArray, List.getElem_cons_zero, List.setIfInBounds_toArray, List.set_cons_zero, List.set_cons_succ]
            refine wpAnyH_take (i := 1) (v := ?_) rfl (by kernel_rfl) (by kernel_rfl) (by kernel_rfl) (fun _ _ _ h => h) (Or.inl ⟨by rfl, ?_⟩) (by assumption) ?_
            rotate_left
            · first | (intro w hSw; (try dsimp only at hSw); go_simp; done) | (intro w hSw; (try dsimp only at hSw); go_simp; with_reducible rfl)
            try simp only [Act.put, List.getElem_toArray, List.getElem_cons_zero, List.getElem_cons_succ, List.setIfInBounds_toArray, List.set_cons_zero, List.set_cons_succ]
            refine wpAnyH_take (i := 2) (v := ?_) rfl (by kernel_rfl) (by kernel_rfl) (by kernel_rfl) (fun _ _ _ h => h) (Or.inl ⟨by rfl, ?_⟩) (by assumption) ?_
            rotate_left
            · first | (intro w hSw; (try dsimp only at hSw); go_simp; done) | (intro w hSw; (try dsimp only at hSw); go_simp; with_reducible rfl)
            try simp only [Act.put, List.getElem_toArray, List.getElem_cons_zero, List.getElem_cons_succ, List.setIfInBounds_toArray, List.set_cons_zero, List.set_cons_succ]
            refine wpAnyH_ready (rs := [3]) (by kernel_rfl) (by simp) ?_
            refine AllReadyH.cons rfl (fun K hK => ?_) AllReadyH.nil
            go_simp
            go_at_call 52
            refine (HC.out _).mono ?_
            rintro e w5 ⟨rfl, hb5⟩
            exact ⟨rfl, node_no ((below_drewN Hbwa.out 1).trans (hb5.mono Hbwa.out.size)) (HE.out 3 Hst.out)⟩
        by_cases h7 : num = 7
        · subst h7
          by_cases hkd : kind = 2
          · subst hkd
            have Hst := Lib.hid (show nStep a ⟨7, 2, u, b⟩ = .ok { a with domain := b } by simp [nStep])
            have HC := Lib.hid (fun w => text_yes 7 u b w)
            unfold Fd.val at HC
            go_wp2_with fail
            refine (HC.out _).mono ?_
            rintro e w3 ⟨rfl, hb3⟩
            have HW := Lib.hid (HVa.out.below hb3)
            have HI3 := Lib.hid (HW.out.set_no { a with domain := b } rfl rfl rfl rfl rfl)
            clear hb3
            go_wp2
            go_roundw
            case rel => exact ⟨k + 1, by omega, by go_num, { a with domain := b }, vi, va, lab, HR.out.trans Hst.out, rfl, HI3.out⟩
            case measure => simp [intOf]; omega
          · have Hst := Lib.hid (show nStep a ⟨7, kind, u, b⟩ = .error 3 by simp [nStep, hkd])
            have HC := Lib.hid (fun w => text_no 7 kind u b w hkd)
            unfold Fd.val at HC
            go_wp2_with fail
            refine (HC.out _).mono ?_
            rintro e w3 ⟨rfl, hb3⟩
            exact ⟨rfl, node_no (Hbwa.out.trans (hb3.mono Hbwa.out.size)) (HE.out 3 Hst.out)⟩
        have e1 : (num == 1) = false := by simpa using h1
        have e2 : (num == 2) = false := by simpa using h2
        have e3 : (num == 3) = false := by simpa using h3
        have e4 : (num == 4) = false := by simpa using h4
        have e5 : (num == 5) = false := by simpa using h5
        have e7 : (num == 7) = false := by simpa using h7
        have Hst := Lib.hid (show nStep a ⟨num, kind, u, b⟩ = .ok a by simp [nStep, h1, h2, h3, h4, h5, h7])
        go_wp2
        go_roundw
        case rel => exact ⟨k + 1, by omega, by go_num, a, vi, va, lab, HR.out.trans Hst.out, rfl, HVa.out⟩
        case measure => simp [intOf]; omega
      · obtain rfl : k = l.length := by omega
        have hall : runF nStep .none l = .ok a := by have := Hrun.out; rw [List.take_length] at this; exact this
        have hten : nodeE s = nEnd a := by unfold nodeE; rw [HL.out]; simp only []; rw [hall]
        have Hten := Lib.hid hten
        have Hbw := Lib.hid (show Below w.heap.size w wr from Hb1.out.trans (HV.out.only.below (by omega) (by omega)))
        have HGr := Lib.hid ((HV.out.only.block w.heap.size (by omega) (by omega)).trans HG1.out)
        clear hall hten
        obtain ⟨Ai, ci, hi⟩ := HV.out.oi.form
        subst hi
        obtain ⟨Aa, ca, ha⟩ := HV.out.oa.form
        subst ha
        by_cases d1 : a.domain.toList = []
        · have hdom : a.domain = ⟨#[]⟩ ∨ a.domain = aionnx := .inl (text_nil d1)
          by_cases hol1 : a.outs.length = 1
          · have eo : ((a.outs.length : Int) == 1) = true := by simp [hol1]
            obtain ⟨o, ho1⟩ : ∃ o, a.outs = [o] := List.length_eq_one_iff.1 hol1
            have hend : nodeE s = if shortB a.op.size a.name.size o.size a.ins a.attrs.length then .ok ⟨a.op, a.name, a.ins, o, a.attrs⟩ else .error 6 := by
              rw [Hten.out]; unfold nEnd; rw [ho1]; simp only []; rw [if_pos hdom]
            have Hend := Lib.hid hend
            obtain ⟨go_, cs0, rfl, hgo1, hgo2, hcs0, hc0⟩ := HV.out.oo.get rfl (k := 0) (x := o) (by rw [ho1]; rfl)
            have c0 : wr.cell? ⟨go_, 0, none⟩ = some (.string o) := by
              have h0 := hc0 0 (by decide)
              rw [hcs0] at h0
              simpa using h0
            have olen : 0 < a.outs.length := by omega
            have t3 : wr.cell? ⟨w.heap.size + 1, 3, none⟩ = some (.string ⟨#[]⟩) := cell_of_row _ _ 3 _ 67 (0, 0) HV.out.t
            have f3 : wr.frozen? ⟨w.heap.size + 1, 3, none⟩ = false := by simp [World.frozen?, HV.out.t]
            have Hfin := Lib.hid (HV.out.fin o)
            have HS5 := (HV.out.oi.set_far (a := ⟨w.heap.size + 1, 3, none⟩) (by exact HV.out.lt) (.string o)).isSlc (by decide)
            obtain ⟨A5, n5, c5, e5, hs5⟩ := HS5
            simp only [Value.slice.injEq] at e5
            obtain ⟨rfl, rfl, rfl⟩ := e5
            have HSh := Lib.hid (short_any a.op a.name o a.ins Ai Aa a.ins.length ci a.attrs.length ca (wr.setCell ⟨w.heap.size + 1, 3, none⟩ (.string o)) _ hs5 (fun k hk => hk.2) (by unfold maxLen; omega))
            have Hno1 := Lib.hid hdom
            clear hend hol1 ho1 hcs0 hc0 hs5 hdom
            go_wp2_with fail
            refine (must_yes _ _).mono ?_
            rintro e w3 ⟨rfl, rfl⟩
            have g5 := Hfin.out.1
            have q0 : (wr.setCell ⟨w.heap.size + 1, 3, none⟩ (.string o)).cell? ⟨w.heap.size + 1, 0, none⟩ = some (.string a.op) := cell_of_row _ _ 0 _ 67 (0, 0) g5
            have q1 : (wr.setCell ⟨w.heap.size + 1, 3, none⟩ (.string o)).cell? ⟨w.heap.size + 1, 1, none⟩ = some (.string a.name) := cell_of_row _ _ 1 _ 67 (0, 0) g5
            have q2 : (wr.setCell ⟨w.heap.size + 1, 3, none⟩ (.string o)).cell? ⟨w.heap.size + 1, 2, none⟩ = some (.slice Ai a.ins.length ci) := cell_of_row _ _ 2 _ 67 (0, 0) g5
            have q3 : (wr.setCell ⟨w.heap.size + 1, 3, none⟩ (.string o)).cell? ⟨w.heap.size + 1, 3, none⟩ = some (.string o) := cell_of_row _ _ 3 _ 67 (0, 0) g5
            have q4 : (wr.setCell ⟨w.heap.size + 1, 3, none⟩ (.string o)).cell? ⟨w.heap.size + 1, 4, none⟩ = some (.slice Aa a.attrs.length ca) := cell_of_row _ _ 4 _ 67 (0, 0) g5
            clear g5
            go_wp2_with fail
            refine HSh.out.mono ?_
            rintro e w4 ⟨rfl, hb4⟩
            have Hb4 := Lib.hid hb4
            have g6 := (hb4.block (w.heap.size + 1) (by have := Hfin.out.2.1.size; have := HV.out.lt; omega)).trans Hfin.out.1
            have Hbw4 := Lib.hid (show Below w.heap.size w w4 from (Hb1.out.trans (Hfin.out.2.1.below (by omega) (by omega))).trans (hb4.mono (by have := Hfin.out.2.1.size; omega)))
            have hgr4 := (hb4.block w.heap.size (by have := Hfin.out.2.1.size; omega)).trans ((Hfin.out.2.1.block w.heap.size (by omega) (by omega)).trans HG1.out)
            have HGr4 := Lib.hid hgr4
            have HR4 := Lib.hid (repNd.keep (Z' := fun k => w1.heap.size ≤ k ∧ k < w4.heap.size) Hfin.out.2.2 (fun k hk => hb4.block k hk.2) (fun k hk => ⟨hk.1, Nat.lt_of_lt_of_le hk.2 hb4.size⟩))
            have s0 : w4.cell? ⟨w.heap.size + 1, 0, none⟩ = some (.string a.op) := cell_of_row _ _ 0 _ 67 (0, 0) g6
            have s1 : w4.cell? ⟨w.heap.size + 1, 1, none⟩ = some (.string a.name) := cell_of_row _ _ 1 _ 67 (0, 0) g6
            have s2 : w4.cell? ⟨w.heap.size + 1, 2, none⟩ = some (.slice Ai a.ins.length ci) := cell_of_row _ _ 2 _ 67 (0, 0) g6
            have s3 : w4.cell? ⟨w.heap.size + 1, 3, none⟩ = some (.string o) := cell_of_row _ _ 3 _ 67 (0, 0) g6
            have s4 : w4.cell? ⟨w.heap.size + 1, 4, none⟩ = some (.slice Aa a.attrs.length ca) := cell_of_row _ _ 4 _ 67 (0, 0) g6
            have r0 : w4.cell? ⟨w.heap.size, 0, none⟩ = some (.string ⟨#[]⟩) := cell_of_row _ _ 0 _ 67 (0, 0) hgr4
            have r1 : w4.cell? ⟨w.heap.size, 1, none⟩ = some (.string ⟨#[]⟩) := cell_of_row _ _ 1 _ 67 (0, 0) hgr4
            have r2 : w4.cell? ⟨w.heap.size, 2, none⟩ = some (.slice none 0 0) := cell_of_row _ _ 2 _ 67 (0, 0) hgr4
            have r3 : w4.cell? ⟨w.heap.size, 3, none⟩ = some (.string ⟨#[]⟩) := cell_of_row _ _ 3 _ 67 (0, 0) hgr4
            have r4 : w4.cell? ⟨w.heap.size, 4, none⟩ = some (.slice none 0 0) := cell_of_row _ _ 4 _ 67 (0, 0) hgr4
            have hf : ∀ i, w4.frozen? ⟨w.heap.size, i, none⟩ = false := fun i => by simp [World.frozen?, hgr4]
            have h0 := hf 0
            have h1 := hf 1
            have h2 := hf 2
            have h3 := hf 3
            have h4 := hf 4
            clear hf hgr4 g6 hb4
            cases hsh : shortB a.op.size a.name.size o.size a.ins a.attrs.length with
            | false =>
              have Hno := Lib.hid (show nodeE s = .error 6 by rw [Hend.out, hsh]; rfl)
              clear hsh
              go_wp2_with fail
              refine (must_no _ _).mono ?_
              rintro e w3 ⟨rfl, rfl⟩
              exact ⟨rfl, node_no Hbw4.out Hno.out⟩
            | true =>
              have Hyes := Lib.hid (show nodeE s = .ok ⟨a.op, a.name, a.ins, o, a.attrs⟩ by rw [Hend.out, hsh]; rfl)
              clear hsh
              go_wp2_with fail
              refine (must_yes _ _).mono ?_
              rintro e w3 ⟨rfl, rfl⟩
              go_wp2
              obtain ⟨G5, B5, R5⟩ := fin_row repNd HGr4.out (by simp [putAll]) Hbw4.out (Nat.le_refl _) HR4.out (fun k hk => ⟨by omega, by omega, hk.2⟩)
              refine bodyPost_ret (results_cell_row rfl _ _ w.heap.size 67 _ (0, 0) _ rfl G5 Try.underlying67 rfl (by kernel_rfl)) rfl ?_
              exact ⟨B5, .inl ⟨_, _, Hyes.out, rfl, R5⟩⟩
          · have eo : ((a.outs.length : Int) == 1) = false := by simpa using (show ¬ (a.outs.length : Int) = 1 by omega)
            have Hno := Lib.hid (show nodeE s = .error 5 by rw [Hten.out]; exact nEnd_len hol1)
            go_wp2_with fail
            refine (must_no _ _).mono ?_
            rintro e w3 ⟨rfl, rfl⟩
            exact ⟨rfl, node_no Hbw.out Hno.out⟩
        by_cases d2 : a.domain.toList = [97, 105, 46, 111, 110, 110, 120]
        · have hdom : a.domain = ⟨#[]⟩ ∨ a.domain = aionnx := .inr (text_is d2)
          by_cases hol1 : a.outs.length = 1
          · have eo : ((a.outs.length : Int) == 1) = true := by simp [hol1]
            obtain ⟨o, ho1⟩ : ∃ o, a.outs = [o] := List.length_eq_one_iff.1 hol1
            have hend : nodeE s = if shortB a.op.size a.name.size o.size a.ins a.attrs.length then .ok ⟨a.op, a.name, a.ins, o, a.attrs⟩ else .error 6 := by
              rw [Hten.out]; unfold nEnd; rw [ho1]; simp only []; rw [if_pos hdom]
            have Hend := Lib.hid hend
            obtain ⟨go_, cs0, rfl, hgo1, hgo2, hcs0, hc0⟩ := HV.out.oo.get rfl (k := 0) (x := o) (by rw [ho1]; rfl)
            have c0 : wr.cell? ⟨go_, 0, none⟩ = some (.string o) := by
              have h0 := hc0 0 (by decide)
              rw [hcs0] at h0
              simpa using h0
            have olen : 0 < a.outs.length := by omega
            have t3 : wr.cell? ⟨w.heap.size + 1, 3, none⟩ = some (.string ⟨#[]⟩) := cell_of_row _ _ 3 _ 67 (0, 0) HV.out.t
            have f3 : wr.frozen? ⟨w.heap.size + 1, 3, none⟩ = false := by simp [World.frozen?, HV.out.t]
            have Hfin := Lib.hid (HV.out.fin o)
            have HS5 := (HV.out.oi.set_far (a := ⟨w.heap.size + 1, 3, none⟩) (by exact HV.out.lt) (.string o)).isSlc (by decide)
            obtain ⟨A5, n5, c5, e5, hs5⟩ := HS5
            simp only [Value.slice.injEq] at e5
            obtain ⟨rfl, rfl, rfl⟩ := e5
            have HSh := Lib.hid (short_any a.op a.name o a.ins Ai Aa a.ins.length ci a.attrs.length ca (wr.setCell ⟨w.heap.size + 1, 3, none⟩ (.string o)) _ hs5 (fun k hk => hk.2) (by unfold maxLen; omega))
            have Hno1 := Lib.hid hdom
            clear hend hol1 ho1 hcs0 hc0 hs5 hdom
            go_wp2_with fail
            refine (must_yes _ _).mono ?_
            rintro e w3 ⟨rfl, rfl⟩
            have g5 := Hfin.out.1
            have q0 : (wr.setCell ⟨w.heap.size + 1, 3, none⟩ (.string o)).cell? ⟨w.heap.size + 1, 0, none⟩ = some (.string a.op) := cell_of_row _ _ 0 _ 67 (0, 0) g5
            have q1 : (wr.setCell ⟨w.heap.size + 1, 3, none⟩ (.string o)).cell? ⟨w.heap.size + 1, 1, none⟩ = some (.string a.name) := cell_of_row _ _ 1 _ 67 (0, 0) g5
            have q2 : (wr.setCell ⟨w.heap.size + 1, 3, none⟩ (.string o)).cell? ⟨w.heap.size + 1, 2, none⟩ = some (.slice Ai a.ins.length ci) := cell_of_row _ _ 2 _ 67 (0, 0) g5
            have q3 : (wr.setCell ⟨w.heap.size + 1, 3, none⟩ (.string o)).cell? ⟨w.heap.size + 1, 3, none⟩ = some (.string o) := cell_of_row _ _ 3 _ 67 (0, 0) g5
            have q4 : (wr.setCell ⟨w.heap.size + 1, 3, none⟩ (.string o)).cell? ⟨w.heap.size + 1, 4, none⟩ = some (.slice Aa a.attrs.length ca) := cell_of_row _ _ 4 _ 67 (0, 0) g5
            clear g5
            go_wp2_with fail
            refine HSh.out.mono ?_
            rintro e w4 ⟨rfl, hb4⟩
            have Hb4 := Lib.hid hb4
            have g6 := (hb4.block (w.heap.size + 1) (by have := Hfin.out.2.1.size; have := HV.out.lt; omega)).trans Hfin.out.1
            have Hbw4 := Lib.hid (show Below w.heap.size w w4 from (Hb1.out.trans (Hfin.out.2.1.below (by omega) (by omega))).trans (hb4.mono (by have := Hfin.out.2.1.size; omega)))
            have hgr4 := (hb4.block w.heap.size (by have := Hfin.out.2.1.size; omega)).trans ((Hfin.out.2.1.block w.heap.size (by omega) (by omega)).trans HG1.out)
            have HGr4 := Lib.hid hgr4
            have HR4 := Lib.hid (repNd.keep (Z' := fun k => w1.heap.size ≤ k ∧ k < w4.heap.size) Hfin.out.2.2 (fun k hk => hb4.block k hk.2) (fun k hk => ⟨hk.1, Nat.lt_of_lt_of_le hk.2 hb4.size⟩))
            have s0 : w4.cell? ⟨w.heap.size + 1, 0, none⟩ = some (.string a.op) := cell_of_row _ _ 0 _ 67 (0, 0) g6
            have s1 : w4.cell? ⟨w.heap.size + 1, 1, none⟩ = some (.string a.name) := cell_of_row _ _ 1 _ 67 (0, 0) g6
            have s2 : w4.cell? ⟨w.heap.size + 1, 2, none⟩ = some (.slice Ai a.ins.length ci) := cell_of_row _ _ 2 _ 67 (0, 0) g6
            have s3 : w4.cell? ⟨w.heap.size + 1, 3, none⟩ = some (.string o) := cell_of_row _ _ 3 _ 67 (0, 0) g6
            have s4 : w4.cell? ⟨w.heap.size + 1, 4, none⟩ = some (.slice Aa a.attrs.length ca) := cell_of_row _ _ 4 _ 67 (0, 0) g6
            have r0 : w4.cell? ⟨w.heap.size, 0, none⟩ = some (.string ⟨#[]⟩) := cell_of_row _ _ 0 _ 67 (0, 0) hgr4
            have r1 : w4.cell? ⟨w.heap.size, 1, none⟩ = some (.string ⟨#[]⟩) := cell_of_row _ _ 1 _ 67 (0, 0) hgr4
            have r2 : w4.cell? ⟨w.heap.size, 2, none⟩ = some (.slice none 0 0) := cell_of_row _ _ 2 _ 67 (0, 0) hgr4
            have r3 : w4.cell? ⟨w.heap.size, 3, none⟩ = some (.string ⟨#[]⟩) := cell_of_row _ _ 3 _ 67 (0, 0) hgr4
            have r4 : w4.cell? ⟨w.heap.size, 4, none⟩ = some (.slice none 0 0) := cell_of_row _ _ 4 _ 67 (0, 0) hgr4
            have hf : ∀ i, w4.frozen? ⟨w.heap.size, i, none⟩ = false := fun i => by simp [World.frozen?, hgr4]
            have h0 := hf 0
            have h1 := hf 1
            have h2 := hf 2
            have h3 := hf 3
            have h4 := hf 4
            clear hf hgr4 g6 hb4
            cases hsh : shortB a.op.size a.name.size o.size a.ins a.attrs.length with
            | false =>
              have Hno := Lib.hid (show nodeE s = .error 6 by rw [Hend.out, hsh]; rfl)
              clear hsh
              go_wp2_with fail
              refine (must_no _ _).mono ?_
              rintro e w3 ⟨rfl, rfl⟩
              exact ⟨rfl, node_no Hbw4.out Hno.out⟩
            | true =>
              have Hyes := Lib.hid (show nodeE s = .ok ⟨a.op, a.name, a.ins, o, a.attrs⟩ by rw [Hend.out, hsh]; rfl)
              clear hsh
              go_wp2_with fail
              refine (must_yes _ _).mono ?_
              rintro e w3 ⟨rfl, rfl⟩
              go_wp2
              obtain ⟨G5, B5, R5⟩ := fin_row repNd HGr4.out (by simp [putAll]) Hbw4.out (Nat.le_refl _) HR4.out (fun k hk => ⟨by omega, by omega, hk.2⟩)
              refine bodyPost_ret (results_cell_row rfl _ _ w.heap.size 67 _ (0, 0) _ rfl G5 Try.underlying67 rfl (by kernel_rfl)) rfl ?_
              exact ⟨B5, .inl ⟨_, _, Hyes.out, rfl, R5⟩⟩
          · have eo : ((a.outs.length : Int) == 1) = false := by simpa using (show ¬ (a.outs.length : Int) = 1 by omega)
            have Hno := Lib.hid (show nodeE s = .error 5 by rw [Hten.out]; exact nEnd_len hol1)
            go_wp2_with fail
            refine (must_no _ _).mono ?_
            rintro e w3 ⟨rfl, rfl⟩
            exact ⟨rfl, node_no Hbw.out Hno.out⟩
        have hdom : ¬ (a.domain = ⟨#[]⟩ ∨ a.domain = aionnx) := by
          rintro (h | h)
          · exact d1 (by rw [h]; exact text_to [])
          · exact d2 (by rw [h]; exact text_to [97, 105, 46, 111, 110, 110, 120])
        have Hno := Lib.hid (show nodeE s = .error 5 by rw [Hten.out]; exact nEnd_dom hdom)
        go_wp2_with fail
        refine (must_no _ _).mono ?_
        rintro e w3 ⟨rfl, rfl⟩
        exact ⟨rfl, node_no Hbw.out Hno.out⟩
  · exact ⟨rfl, node_no (HB0.out.trans (hb1.mono HB0.out.size)) (by unfold nodeE; rw [he])⟩
end Go.Proofs.Ytkcnpnnflbibiaa

