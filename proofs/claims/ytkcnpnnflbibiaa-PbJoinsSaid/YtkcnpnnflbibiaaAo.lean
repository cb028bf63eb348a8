/- The walks: a value read. -/
import Derived.Test.YtkcnpnnflbibiaaZm
import Derived.Deep.RegionLaw
import Derived.BigRegion
set_option linter.unusedVariables false
namespace Go.Proofs.Ytkcnpnnflbibiaa
open Go.RowKit

set_option maxRecDepth 100000 in
set_option maxHeartbeats 1600000 in
theorem value_any (s : ByteArray) (w : World) (hs : s.size ≤ 140737488351232) : Calls Try.prog 55 #[.string s] w (ValueIs s w) := by
  have hgr0 := (Below.heap_alloc (w.alloc (.cells #[.string ⟨#[]⟩, .int .i64 0, .slice none 0 0] 81)) (.cells #[.string ⟨#[]⟩, .int .i64 0, .slice none 0 0] 81) w.heap.size (by simp)).trans (heap_alloc_new w (.cells #[.string ⟨#[]⟩, .int .i64 0, .slice none 0 0] 81))
  have hgv0 := heap_second w (.cells #[.string ⟨#[]⟩, .int .i64 0, .slice none 0 0] 81) (.cells #[.string ⟨#[]⟩, .int .i64 0, .slice none 0 0] 81) (w.heap.size + 1) rfl
  have hb0 : Below w.heap.size w ((w.alloc (.cells #[.string ⟨#[]⟩, .int .i64 0, .slice none 0 0] 81)).alloc (.cells #[.string ⟨#[]⟩, .int .i64 0, .slice none 0 0] 81)) := ((Below.refl _ _).alloc (Nat.le_refl _) _).alloc (by simp) _
  have hz0 : ((w.alloc (.cells #[.string ⟨#[]⟩, .int .i64 0, .slice none 0 0] 81)).alloc (.cells #[.string ⟨#[]⟩, .int .i64 0, .slice none 0 0] 81)).heap.size = w.heap.size + 2 := by simp
  have HJ := Lib.hid (joined_n s 2 (w.heap.size + 1) ⟨#[]⟩ (.int .i64 0) (.slice none 0 0) _ hs hgv0)
  have HGr0 := Lib.hid hgr0
  have HB0 := Lib.hid hb0
  have HZ0 := Lib.hid hz0
  clear hgr0 hgv0 hb0 hz0
  go_enter Try.func55, Try.ntmps55
  go_wp2_with fail
  refine HJ.out.mono ?_
  rintro e w1 ⟨ho1, ⟨t, had, name, hj, rfl, hgv1⟩ | ⟨err, hj, rfl⟩⟩
  · have z1 : w.heap.size + 2 ≤ w1.heap.size := by have := ho1.size; rw [HZ0.out] at this; exact this
    have Hb1 := Lib.hid (show Below w.heap.size w w1 from HB0.out.trans (ho1.below (by omega) (by rw [HZ0.out]; omega)))
    have hgr1 := (ho1.block w.heap.size (by rw [HZ0.out]; omega) (by omega)).trans HGr0.out
    have HGr1 := Lib.hid hgr1
    have HGv1 := Lib.hid hgv1
    have ht := joinE_size hj
    dsimp only at ht
    cases had with
    | false =>
      have hno : valueE s = .error 5 := by unfold valueE; rw [hj]; rfl
      have Hno := Lib.hid hno
      clear ho1 hgv1 hgr1 hj hno HJ HB0 HZ0 HGr0
      go_wp2_with fail
      refine (must_no _ _).mono ?_
      rintro e w3 ⟨rfl, rfl⟩
      exact ⟨rfl, value_no Hb1.out Hno.out⟩
    | true =>
      have Hj := Lib.hid hj
      have HP := Lib.hid (fun w => joined_p t 1 w (by omega))
      clear ho1 hgv1 hgr1 hj HJ HB0 HZ0 HGr0
      go_wp2_with fail
      refine (HP.out _).mono ?_
      rintro e w2 ⟨hb2, ⟨u, is, hp, rfl⟩ | ⟨err, hp, rfl⟩⟩
      · have z2 := hb2.size
        have Hb2 := Lib.hid (show Below w.heap.size w w2 from Hb1.out.trans (hb2.mono Hb1.out.size))
        have HGr2 := Lib.hid ((hb2.block w.heap.size (by omega)).trans HGr1.out)
        have HGv2 := Lib.hid ((hb2.block (w.heap.size + 1) (by omega)).trans HGv1.out)
        have hu := joinE_size hp
        dsimp only at hu
        cases is with
        | false =>
          have hno : valueE s = .error 5 := by unfold valueE; rw [Hj.out]; simp only []; rw [hp]; rfl
          have Hno := Lib.hid hno
          clear hb2 hp hno
          go_wp2_with fail
          refine (must_no _ _).mono ?_
          rintro e w3 ⟨rfl, rfl⟩
          exact ⟨rfl, value_no Hb2.out Hno.out⟩
        | true =>
          have Hp := Lib.hid hp
          clear hb2 hp HP
          go_wp2_with fail
          refine (must_yes _ _).mono ?_
          rintro e w3 ⟨rfl, rfl⟩
          go_wp2_with fail
          have HTj := Lib.hid (joined_t u 2 w2.heap.size 0 (w2.alloc (.cells #[.int .i64 0] 2)) (by omega) (heap_alloc_new w2 _))
          refine HTj.out.mono ?_
          rintro e w3 ⟨ho3, ⟨wb, has, typ, hq, rfl, hgt3⟩ | ⟨err, hq, rfl⟩⟩
          · have z3 : w2.heap.size < w3.heap.size := Nat.lt_of_lt_of_le (by simp) ho3.size
            have Hb3 := Lib.hid (show Below w.heap.size w w3 from (Hb2.out.alloc Hb2.out.size (.cells #[.int .i64 0] 2)).trans (ho3.below (by omega) (by simp; omega)))
            have HGr3 := Lib.hid ((ho3.block w.heap.size (by simp; omega) (by omega)).trans ((Below.heap_alloc w2 (.cells #[.int .i64 0] 2) w.heap.size (by omega)).trans HGr2.out))
            have HGv3 := Lib.hid ((ho3.block (w.heap.size + 1) (by simp; omega) (by omega)).trans ((Below.heap_alloc w2 (.cells #[.int .i64 0] 2) (w.heap.size + 1) (by omega)).trans HGv2.out))
            have HGt3 := Lib.hid hgt3
            have hwb := joinE_size hq
            dsimp only at hwb
            have hval : valueE s = (match fldsE wb with | .error e => .error e | .ok l => match runF vdStep [] l with | .error e => .error e | .ok dims => vEnd name typ has dims) := by
              unfold valueE; rw [Hj.out]; simp only []; rw [Hp.out]; simp only []; rw [hq]; rfl
            have Hval := Lib.hid hval
            have HF := Lib.hid (fields_any wb w3 (by omega))
            clear ho3 hgt3 hq hval HTj
            go_wp2_with fail
            refine HF.out.mono ?_
            rintro e w4 ⟨hb4, ⟨l, A, c, hl, rfl, hof⟩ | ⟨err, he, rfl⟩⟩
            · have z4 := hb4.size
              have Hb4 := Lib.hid (show Below w.heap.size w w4 from Hb3.out.trans (hb4.mono Hb3.out.size))
              have HGr4 := Lib.hid ((hb4.block w.heap.size (by omega)).trans HGr3.out)
              have HGt4 := Lib.hid ((hb4.block w2.heap.size (by omega)).trans HGt3.out)
              have HI := Lib.hid (show VInv w4 w4 (w.heap.size + 1) name (.slice none 0 0) [] from ⟨by omega, Only.refl _ _, (hb4.block (w.heap.size + 1) (by omega)).trans HGv3.out, ownD_nil _ _⟩)
              have hn : l.length ≤ 9223372036854775807 := hof.2
              have hfb : 0 < l.length → ∃ g, A = some ⟨g, 0, none⟩ ∧ w3.heap.size ≤ g ∧ g < w4.heap.size := fun hn => by
                obtain ⟨g, cap, e, h1, h2⟩ := World.ownsRow.form hof.1 hn
                simp only [Value.slice.injEq] at e
                exact ⟨g, e.1, h1, h2⟩
              have Hfb := Lib.hid hfb
              have Hfl := Lib.hid (hof.flds rfl)
              have HL := Lib.hid hl
              have Hk := Lib.hid (fldsE_ok hl)
              have hval2 : valueE s = (match runF vdStep [] l with | .error e => .error e | .ok dims => vEnd name typ has dims) := by rw [Hval.out, hl]
              have Hval2 := Lib.hid hval2
              obtain ⟨i3, hi3, hz30, hz31, hz32⟩ := info_parts Try.info3
              clear hof hfb hl hb4 HF hval2
              go_wp2_with fail
              go_loopw [38] (fun i wr => ∃ k : Nat, k ≤ l.length ∧ i = .int .i64 k ∧ ∃ v d, runF vdStep [] (l.take k) = .ok d ∧ VInv w4 wr (w.heap.size + 1) name v d) (fun i _ => l.length - (intOf i).toNat)
              case atStart => exact ⟨0, by omega, rfl, _, [], rfl, HI.out⟩
              case round =>
                obtain ⟨k, hk, rfl, v, d, hrun, hinv⟩ := hrel
                have Hrun := Lib.hid hrun
                have HV := Lib.hid hinv
                have zr := hinv.only.size
                have hwl := wt_mono l k
                have hws := Hk.out.2.2.2.2
                have hdl := vd_len _ _ _ hrun
                simp only [List.length_nil] at hdl
                have hsz := Hk.out.2.1
                clear hrun hinv
                by_cases hlt : k < l.length
                · obtain ⟨f, hf⟩ : ∃ f, l[k]? = some f := ⟨_, List.getElem?_eq_getElem hlt⟩
                  obtain ⟨g, rfl, hg1, hg2⟩ := Hfb.out (by omega)
                  obtain ⟨b1, o1, e1, hb1, hc1⟩ := Hfl.out.at_ (by omega)
                  simp only [Option.some.injEq, Addr.mk.injEq, and_true] at e1
                  obtain ⟨rfl, rfl⟩ := e1
                  obtain ⟨x0, x1, x2, x3⟩ := hc1 k f hf
                  have hkp : ∀ i, wr.cell? ⟨g, i, none⟩ = w4.cell? ⟨g, i, none⟩ := fun i => World.cell?_of_block (a := ⟨g, i, none⟩) (HV.out.only.block g hg2 (by omega))
                  rw [Nat.mul_comm 4 k, Nat.zero_add, ← hkp] at x0 x1 x2 x3
                  have hwk := wt_take l k f hf
                  have hwm := wt_mono l (k + 1)
                  have HR := Lib.hid (runF_take vdStep [] l k f hf _ Hrun.out)
                  have HE := Lib.hid (fun e (h : vdStep d f = .error e) => show valueE s = .error e by rw [Hval2.out, runF_bad vdStep [] l k f hf d Hrun.out e h])
                  clear hc1 hf hkp
                  obtain ⟨num, kind, u2, b⟩ := f
                  dsimp only at x0 x1 x2 x3 hwk
                  have HVa := Lib.hid (HV.out.below (Below.alloc (Below.refl wr.heap.size wr) (Nat.le_refl _) (.cells #[.int .i64 num, .int .i64 kind, .int .u64 u2, .string b] 24)))
                  have Hbwa := Lib.hid (show Below w.heap.size w (wr.alloc (.cells #[.int .i64 num, .int .i64 kind, .int .u64 u2, .string b] 24)) from Hb4.out.trans (HVa.out.only.below (by omega) (by omega)))
                  by_cases h1 : num = 1
                  · subst h1
                    have p0 : (wr.alloc (.cells #[.int .i64 1, .int .i64 kind, .int .u64 u2, .string b] 24)).cell? ⟨wr.heap.size, 0, none⟩ = some (.int .i64 1) := cell_of_row _ _ 0 _ 24 (0, 0) (heap_alloc_new wr _)
                    have p1 : (wr.alloc (.cells #[.int .i64 1, .int .i64 kind, .int .u64 u2, .string b] 24)).cell? ⟨wr.heap.size, 1, none⟩ = some (.int .i64 kind) := cell_of_row _ _ 1 _ 24 (0, 0) (heap_alloc_new wr _)
                    have p2 : (wr.alloc (.cells #[.int .i64 1, .int .i64 kind, .int .u64 u2, .string b] 24)).cell? ⟨wr.heap.size, 2, none⟩ = some (.int .u64 u2) := cell_of_row _ _ 2 _ 24 (0, 0) (heap_alloc_new wr _)
                    have p3 : (wr.alloc (.cells #[.int .i64 1, .int .i64 kind, .int .u64 u2, .string b] 24)).cell? ⟨wr.heap.size, 3, none⟩ = some (.string b) := cell_of_row _ _ 3 _ 24 (0, 0) (heap_alloc_new wr _)
                    have wl0 : wr.heap.size < (wr.alloc (.cells #[.int .i64 1, .int .i64 kind, .int .u64 u2, .string b] 24)).heap.size := by simp
                    have q2 := cell_of_row _ _ 2 _ 81 (0, 0) HVa.out.t
                    have qf : (wr.alloc (.cells #[.int .i64 1, .int .i64 kind, .int .u64 u2, .string b] 24)).frozen? ⟨w.heap.size + 1, 2, none⟩ = false := by simp [World.frozen?, HVa.out.t]
                    have gl0 : w.heap.size + 1 < (wr.alloc (.cells #[.int .i64 1, .int .i64 kind, .int .u64 u2, .string b] 24)).heap.size := Nat.lt_of_lt_of_le HVa.out.lt HVa.out.only.size
                    have q2 : (wr.alloc (.cells #[.int .i64 1, .int .i64 kind, .int .u64 u2, .string b] 24)).cell? ⟨w.heap.size + 1, 2, none⟩ = some v := q2
                    have hbs : b.size ≤ 16777216 := by omega
                    by_cases hkd : kind = 2
                    · subst hkd
                      have HC0 := fun w => text_yes 1 u2 b w
                      unfold Fd.val at HC0
                      have HC := Lib.hid HC0
                      clear HC0
                      cases hd : dimE b with
                      | error err =>
                        have Hst := Lib.hid (show vdStep d ⟨1, 2, u2, b⟩ = .error err by simp [vdStep, hd])
                        have HD0 : ∀ w, Calls Try.prog 79 #[.string b] w fun e w' => e = .panicked (refu err) ∧ Below w.heap.size w w' := fun w => (dim_any b w (by omega)).mono fun e w' h => by
                          rcases h.2 with ⟨d', h1, h2⟩ | ⟨err', h1, h2⟩
                          · rw [hd] at h1; cases h1
                          · rw [hd] at h1; cases h1; exact ⟨h2, h.1⟩
                        have HD := Lib.hid HD0
                        clear HD0 hd
                        go_wp2_with fail
                        generalize wr.alloc (.cells #[.int .i64 1, .int .i64 2, .int .u64 u2, .string b] 24) = W0 at p0 p1 p2 p3 q2 qf wl0 gl0 HVa Hbwa ⊢
                        refine wp_region_held_drew (S := fun W => W.cell? ⟨w.heap.size + 1, 2, none⟩ = some v ∧ W.cell? ⟨wr.heap.size, 0, none⟩ = some (.int .i64 1) ∧ W.cell? ⟨wr.heap.size, 1, none⟩ = some (.int .i64 2) ∧ W.cell? ⟨wr.heap.size, 2, none⟩ = some (.int .u64 u2) ∧ W.cell? ⟨wr.heap.size, 3, none⟩ = some (.string b)) (by kernel_rfl) ⟨q2, p0, p1, p2, p3⟩ (fun hHeld => ?_)
                        refine wpAnyH_take (i := 0) (v := ?_) rfl (by kernel_rfl) (by kernel_rfl) (by kernel_rfl) (fun _ _ _ h => h) (Or.inl ⟨by rfl, ?_⟩) (by assumption) ?_
                        rotate_left
                        · first | (intro w hSw; (try dsimp only at hSw); go_simp; done) | (intro w hSw; (try dsimp only at hSw); go_simp; with_reducible rfl)
                        try simp only [Act.put, List.getElem_toArray, List.getElem_cons_zero, List.setIfInBounds_toArray, List.set_cons_zero, List.set_cons_succ]
                        refine wpAnyH_take (i := 1) (v := ?_) rfl (by kernel_rfl) (by kernel_rfl) (by kernel_rfl) (fun _ _ _ h => h) (Or.inl ⟨by rfl, ?_⟩) (by assumption) ?_
                        rotate_left
                        · first | (intro w hSw; (try dsimp only at hSw); go_simp; done) | (intro w hSw; (try dsimp only at hSw); go_simp; with_reducible rfl)
                        try simp only [Act.put, List.getElem_toArray, List.getElem_cons_zero, List.getElem_cons_succ, List.setIfInBounds_toArray, List.set_cons_zero, List.set_cons_succ]
                        refine wpAnyH_take (i := 2) (v := ?_) rfl (by kernel_rfl) (by kernel_rfl) (by kernel_rfl) (fun _ _ _ h => h) (Or.inl ⟨by rfl, ?_⟩) (by assumption) ?_
                        rotate_left
                        · first | (intro w hSw; (try dsimp only at hSw); go_simp; done) | (intro w hSw; (try dsimp only at hSw); go_simp; with_reducible rfl)
                        try simp only [Act.put, List.getElem_toArray, List.getElem_cons_zero, List.getElem_cons_succ, List.setIfInBounds_toArray, List.set_cons_zero, List.set_cons_succ]
                        refine wpAnyH_ready (rs := [3]) (by kernel_rfl) (by simp) ?_
                        refine AllReadyH.cons rfl (fun K hK => ?_) AllReadyH.nil
                        go_simp
                        go_at_call 52
                        refine (HC.out _).mono ?_
                        rintro e w5 ⟨rfl, hb5⟩
                        dsimp only
                        refine hK.out _ _ ⟨(hb5.cell (by exact gl0)).trans q2, (hb5.cell (by exact wl0)).trans p0, (hb5.cell (by exact wl0)).trans p1, (hb5.cell (by exact wl0)).trans p2, (hb5.cell (by exact wl0)).trans p3⟩ (fun hHeld2 => ?_)
                        clear hK K
                        try simp only [Act.put, List.getElem_toArray, List.getElem_cons_zero, List.getElem_cons_succ, List.setIfInBounds_toArray, List.set_cons_zero, List.set_cons_succ]
                        refine wpAnyH_ready (rs := [4]) (by kernel_rfl) (by simp) ?_
                        refine AllReadyH.cons rfl (fun K hK => ?_) AllReadyH.nil
                        go_simp
                        go_at_call 79
                        refine (HD.out _).mono ?_
                        rintro e w6 ⟨rfl, hb6⟩
                        exact ⟨rfl, value_no (((below_drewN Hbwa.out 1).trans (hb5.mono Hbwa.out.size)).trans (hb6.mono (Nat.le_trans Hbwa.out.size hb5.size))) (HE.out err Hst.out)⟩
                      | ok x =>
                        have Hst := Lib.hid (show vdStep d ⟨1, 2, u2, b⟩ = .ok (d ++ [x]) by simp [vdStep, hd])
                        have HD0 : ∀ w, Calls Try.prog 79 #[.string b] w fun e w' => e = .returned (.int .i64 x) ∧ Below w.heap.size w w' := fun w => (dim_any b w (by omega)).mono fun e w' h => by
                          rcases h.2 with ⟨d', h1, h2⟩ | ⟨err', h1, h2⟩
                          · rw [hd] at h1; cases h1; exact ⟨h2, h.1⟩
                          · rw [hd] at h1; cases h1
                        have HD := Lib.hid HD0
                        clear HD0 hd
                        go_wp2_with fail
                        generalize wr.alloc (.cells #[.int .i64 1, .int .i64 2, .int .u64 u2, .string b] 24) = W0 at p0 p1 p2 p3 q2 qf wl0 gl0 HVa Hbwa ⊢
                        have hbd : Below W0.heap.size W0 (W0.drewN 1) := below_drewN (Below.refl _ _) 1
                        have HVd := Lib.hid (HVa.out.below hbd)
                        have dl : d.length ≤ 33554432 := by omega
                        have w4W := HVa.out.only.size
                        clear hbd
                        first | (go_region_law (first
                          | (go_simp; go_at_call 52; refine (HC.out _).mono ?_; rintro e w5 ⟨rfl, hb5⟩; have q25 : w5.cell? ⟨w.heap.size + 1, 2, none⟩ = some v := (hb5.cell (by exact gl0)).trans q2; have HV5 := Lib.hid (HVd.out.below hb5); have gl5 : w.heap.size + 1 < w5.heap.size := Nat.lt_of_lt_of_le gl0 hb5.size; have w45 : w4.heap.size ≤ w5.heap.size := Nat.le_trans w4W hb5.size; clear hb5; dsimp only)
                          | (go_simp; go_at_call 79; refine (HD.out _).mono ?_; rintro e w6 ⟨rfl, hb6⟩; have q26 : w6.cell? ⟨w.heap.size + 1, 2, none⟩ = some v := (hb6.cell (by exact gl5)).trans q25; have q2a : (w6.alloc (.cells #[.int .i64 x] 3)).cell? ⟨w.heap.size + 1, 2, none⟩ = some v := (World.cell?_alloc_lt w6 _ _ (Nat.lt_of_lt_of_le gl5 hb6.size)).trans q26; have HV6 := Lib.hid (HV5.out.below hb6); have w46 : w4.heap.size ≤ w6.heap.size := Nat.le_trans w45 hb6.size; clear hb6; dsimp only)
                          | (refine step_append_d1 w6 x rfl (.tmp 46) (.tmp 50) 44 rfl i3 _ rfl Try.underlying44 hi3 hz30 hz31 hz32 w4.heap.size v d rfl HV6.out.own w6.heap.size rfl rfl (by omega) w46 ?_; intro v' w7 ho7 hg7 hf7; obtain ⟨Aw, mw, cw, hvw⟩ : ∃ A m c, v' = .slice A m c := (by obtain ⟨A, c, e⟩ := OwnL.form ho7; exact ⟨A, _, c, e⟩); subst hvw; have t7 := HV6.out.t_grown hg7; have q27 : w7.cell? ⟨w.heap.size + 1, 2, none⟩ = some v := cell_of_row _ _ 2 _ 81 (0, 0) t7; have qf7 : w7.frozen? ⟨w.heap.size + 1, 2, none⟩ = false := (by simp [World.frozen?, t7]); have HI7 := Lib.hid (HV6.out.more hg7 ho7); clear t7 ho7 hg7 hf7))) | fail
                        all_goals
                          go_wp2_with fail
                          go_roundw
                          case rel => exact ⟨k + 1, by omega, by go_num, _, d ++ [x], HR.out.trans Hst.out, HI7.out⟩
                          case measure => simp [intOf]; omega
                    · have Hst := Lib.hid (show vdStep d ⟨1, kind, u2, b⟩ = .error 3 by simp [vdStep, hkd])
                      have HC0 := fun w => text_no 1 kind u2 b w hkd
                      unfold Fd.val at HC0
                      have HC := Lib.hid HC0
                      clear HC0
                      go_wp2_with fail
                      generalize wr.alloc (.cells #[.int .i64 1, .int .i64 kind, .int .u64 u2, .string b] 24) = W0 at p0 p1 p2 p3 q2 qf wl0 gl0 HVa Hbwa ⊢
                      refine wp_region_held_drew (S := fun W => W.cell? ⟨w.heap.size + 1, 2, none⟩ = some v ∧ W.cell? ⟨wr.heap.size, 0, none⟩ = some (.int .i64 1) ∧ W.cell? ⟨wr.heap.size, 1, none⟩ = some (.int .i64 kind) ∧ W.cell? ⟨wr.heap.size, 2, none⟩ = some (.int .u64 u2) ∧ W.cell? ⟨wr.heap.size, 3, none⟩ = some (.string b)) (by kernel_rfl) ⟨q2, p0, p1, p2, p3⟩ (fun hHeld => ?_)
                      refine wpAnyH_take (i := 0) (v := ?_) rfl (by kernel_rfl) (by kernel_rfl) (by kernel_rfl) (fun _ _ _ h => h) (Or.inl ⟨by rfl, ?_⟩) (by assumption) ?_
                      rotate_left
                      · first | (intro w hSw; (try dsimp only at hSw); go_simp; done) | (intro w hSw; (try dsimp only at hSw); go_simp; with_reducible rfl)
                      try simp only [Act.put, List.getElem_toArray, List.getElem_cons_zero, List.setIfInBounds_toArray, List.set_cons_zero, List.set_cons_succ]
                      refine wpAnyH_take (i := 1) (v := ?_) rfl (by kernel_rfl) (by kernel_rfl) (by kernel_rfl) (fun _ _ _ h => h) (Or.inl ⟨by rfl, ?_⟩) (by assumption) ?_
                      rotate_left
                      · first | (intro w hSw; (try dsimp only at hSw); go_simp; done) | (intro w hSw; (try dsimp only at hSw); go_simp; with_reducible rfl)
                      try simp only [Act.put, List.getElem_toArray, List.getElem_cons_zero, List.getElem_cons_succ, List.setIfInBounds_toArray, List.set_cons_zero, List.set_cons_succ]
                      refine wpAnyH_take (i := 2) (v := ?_) rfl (by kernel_rfl) (by kernel_rfl) (by kernel_rfl) (fun _ _ _ h => h) (Or.inl ⟨by rfl, ?_⟩) (by assumption) ?_
                      rotate_left
                      · first | (intro w hSw; (try dsimp only at hSw); go_simp; done) | (intro w hSw; (try dsimp only at hSw); go_simp; with_reducible rfl)
                      try simp only [Act.put, List.getElem_toArray, List.getElem_cons_zero, List.getElem_cons_succ, List.setIfInBounds_toArray, List.set_cons_zero, List.set_cons_succ]
                      refine wpAnyH_ready (rs := [3]) (by kernel_rfl) (by simp) ?_
                      refine AllReadyH.cons rfl (fun K hK => ?_) AllReadyH.nil
                      go_simp
                      go_at_call 52
                      refine (HC.out _).mono ?_
                      rintro e w5 ⟨rfl, hb5⟩
                      exact ⟨rfl, value_no ((below_drewN Hbwa.out 1).trans (hb5.mono Hbwa.out.size)) (HE.out 3 Hst.out)⟩
                  · have e1 : (num == 1) = false := by simpa using h1
                    have Hst := Lib.hid (show vdStep d ⟨num, kind, u2, b⟩ = .ok d by simp [vdStep, h1])
                    go_wp2
                    go_roundw
                    case rel => exact ⟨k + 1, by omega, by go_num, v, d, HR.out.trans Hst.out, HVa.out⟩
                    case measure => simp [intOf]; omega
                · obtain rfl : k = l.length := by omega
                  have hall : runF vdStep [] l = .ok d := by have := Hrun.out; rw [List.take_length] at this; exact this
                  have hten : valueE s = vEnd name typ has d := by rw [Hval2.out, hall]
                  have Hten := Lib.hid hten
                  clear hall hten
                  obtain ⟨Av, cv, hv⟩ := OwnL.form HV.out.own
                  subst hv
                  have hgt := (HV.out.only.block w2.heap.size (by omega) (by omega)).trans HGt4.out
                  have g0 : wr.cell? ⟨w2.heap.size, 0, none⟩ = some (.int .i64 typ) := cell_of_row _ _ 0 _ 2 (0, 0) hgt
                  have v1 : wr.cell? ⟨w.heap.size + 1, 1, none⟩ = some (.int .i64 0) := cell_of_row _ _ 1 _ 81 (0, 0) HV.out.t
                  have vf : wr.frozen? ⟨w.heap.size + 1, 1, none⟩ = false := by simp [World.frozen?, HV.out.t]
                  have t5 : (wr.setCell ⟨w.heap.size + 1, 1, none⟩ (.int .i64 typ)).heap[w.heap.size + 1]? = some (.cells #[.string name, .int .i64 typ, .slice Av d.length cv] 81 (0, 0)) := by
                    have := heap_setCell_same wr (w.heap.size + 1) 1 _ 81 (.int .i64 typ) HV.out.t
                    simpa using this
                  have o5 := HV.out.own.set_far (a := ⟨w.heap.size + 1, 1, none⟩) (by exact HV.out.lt) (.int .i64 typ)
                  have b5 : Below w.heap.size w (wr.setCell ⟨w.heap.size + 1, 1, none⟩ (.int .i64 typ)) := (Hb4.out.trans (HV.out.only.below (by omega) (by omega))).setCell (by dsimp only; omega) _
                  have g5 := (Below.heap_setCell wr ⟨w.heap.size + 1, 1, none⟩ (.int .i64 typ) w.heap.size (by dsimp only; omega)).trans ((HV.out.only.block w.heap.size (by omega) (by omega)).trans HGr4.out)
                  have hgl := HV.out.lt
                  have T5 := Lib.hid t5
                  have O5 := Lib.hid o5
                  have B5 := Lib.hid b5
                  have G5 := Lib.hid g5
                  clear t5 o5 b5 g5 hgt
                  cases has with
                  | false =>
                    have hno : valueE s = .error 5 := by rw [Hten.out]; simp [vEnd]
                    have Hno := Lib.hid hno
                    clear hno
                    go_wp2_with fail
                    refine (must_no _ _).mono ?_
                    rintro e w6 ⟨rfl, rfl⟩
                    exact ⟨rfl, value_no B5.out Hno.out⟩
                  | true =>
                    have HY := Lib.hid (fun w => typed_any typ w)
                    cases ht : typd typ with
                    | false =>
                      have hno : valueE s = .error 5 := by rw [Hten.out]; simp [vEnd, ht]
                      rw [ht] at HY
                      have Hno := Lib.hid hno
                      clear hno ht
                      go_wp2_with fail
                      refine (HY.out _).mono ?_
                      rintro e w6 ⟨rfl, rfl⟩
                      go_wp2_with fail
                      refine (must_no _ _).mono ?_
                      rintro e w6 ⟨rfl, rfl⟩
                      exact ⟨rfl, value_no B5.out Hno.out⟩
                    | true =>
                      rw [ht] at HY
                      have Ht := Lib.hid ht
                      clear ht
                      go_wp2_with fail
                      refine (HY.out _).mono ?_
                      rintro e w6 ⟨rfl, rfl⟩
                      generalize wr.setCell ⟨w.heap.size + 1, 1, none⟩ (.int .i64 typ) = W5 at T5 O5 B5 G5 ⊢
                      have p0 : W5.cell? ⟨w.heap.size + 1, 0, none⟩ = some (.string name) := cell_of_row _ _ 0 _ 81 (0, 0) T5.out
                      have p1 : W5.cell? ⟨w.heap.size + 1, 1, none⟩ = some (.int .i64 typ) := cell_of_row _ _ 1 _ 81 (0, 0) T5.out
                      have p2 : W5.cell? ⟨w.heap.size + 1, 2, none⟩ = some (.slice Av d.length cv) := cell_of_row _ _ 2 _ 81 (0, 0) T5.out
                      have hcx : CountIs d (if errC d = 0 then prod d else 0) (errC d) := ⟨rfl, rfl⟩
                      have C := count_any W5 _ Av d.length cv d (own_ints O5.out rfl) _ _ hcx
                      by_cases he0 : errC d = 0
                      · rw [if_pos he0, he0] at C
                        have HC := Lib.hid C
                        have He0 := Lib.hid he0
                        clear C hcx he0
                        go_wp2_with fail
                        refine (must_yes _ _).mono ?_
                        rintro e w6 ⟨rfl, rfl⟩
                        go_wp2_with fail
                        refine HC.out.mono ?_
                        rintro e w6 ⟨rfl, rfl⟩
                        go_wp2_with fail
                        refine (must_yes _ _).mono ?_
                        rintro e w6 ⟨rfl, rfl⟩
                        go_wp2_with fail
                        refine (must_yes _ _).mono ?_
                        rintro e w6 ⟨rfl, rfl⟩
                        by_cases hnm : name.size ≤ 100
                        · have hdn : decide ((name.size : Int) ≤ 100) = true := by simp; omega
                          have hyes : valueE s = .ok ⟨name, typ, d⟩ := by rw [Hten.out]; simp [vEnd, Ht.out, He0.out]; omega
                          have Hyes := Lib.hid hyes
                          clear hyes
                          go_wp2_with fail
                          refine (must_yes _ _).mono ?_
                          rintro e w6 ⟨rfl, rfl⟩
                          obtain ⟨r0, r1, r2⟩ : W5.cell? ⟨w.heap.size, 0, none⟩ = some (.string ⟨#[]⟩) ∧ W5.cell? ⟨w.heap.size, 1, none⟩ = some (.int .i64 0) ∧ W5.cell? ⟨w.heap.size, 2, none⟩ = some (.slice none 0 0) := ⟨cell_of_row _ _ 0 _ 81 (0, 0) G5.out, cell_of_row _ _ 1 _ 81 (0, 0) G5.out, cell_of_row _ _ 2 _ 81 (0, 0) G5.out⟩
                          have rf : ∀ i, W5.frozen? ⟨w.heap.size, i, none⟩ = false := fun i => by simp [World.frozen?, G5.out]
                          have rf0 := rf 0
                          have rf1 := rf 1
                          have rf2 := rf 2
                          clear rf
                          go_wp2
                          obtain ⟨G6, B6, R6⟩ := value_fin O5.out G5.out B5.out (by omega) name typ
                          refine bodyPost_ret (results_cell_row rfl _ _ w.heap.size 81 _ (0, 0) _ rfl G6 Try.underlying81 rfl (by kernel_rfl)) rfl ?_
                          exact ⟨B6, .inl ⟨_, _, Hyes.out, rfl, R6⟩⟩
                        · have hdn : decide ((name.size : Int) ≤ 100) = false := by simp; omega
                          have hno : valueE s = .error 6 := by rw [Hten.out]; simp [vEnd, Ht.out, He0.out]; omega
                          have Hno := Lib.hid hno
                          clear hno
                          go_wp2_with fail
                          refine (must_no _ _).mono ?_
                          rintro e w6 ⟨rfl, rfl⟩
                          exact ⟨rfl, value_no B5.out Hno.out⟩
                      · have hno : valueE s = .error (errC d) := by rw [Hten.out]; simp [vEnd, Ht.out, he0]
                        have hne : (errC d == 0) = false := by simpa using he0
                        rw [if_neg he0] at C
                        have HC := Lib.hid C
                        have Hno := Lib.hid hno
                        clear C hcx he0 hno
                        go_wp2_with fail
                        refine (must_yes _ _).mono ?_
                        rintro e w6 ⟨rfl, rfl⟩
                        go_wp2_with fail
                        refine HC.out.mono ?_
                        rintro e w6 ⟨rfl, rfl⟩
                        go_wp2_with fail
                        refine (must_no _ _).mono ?_
                        rintro e w6 ⟨rfl, rfl⟩
                        exact ⟨rfl, value_no B5.out Hno.out⟩
            · exact ⟨rfl, value_no (Hb3.out.trans (hb4.mono Hb3.out.size)) (by rw [Hval.out, he])⟩
          · have hno : valueE s = .error err := by unfold valueE; rw [Hj.out]; simp only []; rw [Hp.out]; simp only []; rw [hq]; rfl
            exact ⟨rfl, value_no ((Hb2.out.alloc Hb2.out.size (.cells #[.int .i64 0] 2)).trans (ho3.below (by omega) (by simp; omega))) hno⟩
      · have hno : valueE s = .error err := by unfold valueE; rw [Hj.out]; simp only []; rw [hp]; rfl
        exact ⟨rfl, value_no (Hb1.out.trans (hb2.mono Hb1.out.size)) hno⟩
  · have hno : valueE s = .error err := by unfold valueE; rw [hj]
    exact ⟨rfl, value_no (HB0.out.trans (ho1.below (by omega) (by rw [HZ0.out]; omega))) hno⟩
end Go.Proofs.Ytkcnpnnflbibiaa
