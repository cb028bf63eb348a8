import Derived.Test.YtbilddeepnnogaaGreatDoorKbm
import Derived.Deep.RegionHeld3
import Derived.Deep.QuietTactic
import Derived.BigQuiet
set_option linter.unusedVariables false
set_option linter.unusedSimpArgs false
/- The top: nodes that hang on nothing of one another: the walk. -/
set_option linter.unusedVariables false
set_option maxRecDepth 100000
namespace Go.Proofs.YtbilddeepnnogaaGreatDoor
open Go.RowKit Go.Shelf Go.Maps

set_option maxHeartbeats 6400000 in
theorem wide_of (hEw : ∀ n, 1 ≤ n → n ≤ 30 → EncDec wideL n) (hEa : EncDec addL 2) (hN : NewAll) (Ax Pk : Option Addr) (cx ck : Nat) (xs ps : List Int) (mk sz : Int) (w : World) (hg : Gl w) (hx : Nums w Ax xs) (hc : xs.length ≤ cx) (hxl : xs.length ≤ 140737488355328) (hxr : ∀ p ∈ xs, -9223372036854775808 ≤ p ∧ p ≤ 9223372036854775807)
    (hps : Nums w Pk ps) (hpl : ps.length ≤ 140737488355328) (hpr : ∀ p ∈ ps, -9223372036854775808 ≤ p ∧ p ≤ 9223372036854775807) (hm : -9223372036854775808 ≤ mk ∧ mk ≤ 9223372036854775807) (hz : -9223372036854775808 ≤ sz ∧ sz ≤ 9223372036854775807) :
    Calls Tryz.prog 3 #[.slice Ax xs.length cx, .agg #[.int .i64 mk, .int .i64 sz, .slice Pk ps.length ck]] w fun e w' => e = .returned (.bool true) ∧ Since w w' := by
  have HW := Lib.hid hEw
  have HN := Lib.hid hN
  have HWK : ∀ W, Gl W → Calls Tryz.prog 4 #[] W fun e w' => e = .returned (.bool true) ∧ Since W w' := fun W hW => works_of hEa hN W hW
  have HK := Lib.hid HWK
  have HG := Lib.hid hg
  have HX := Lib.hid hx
  have HXR := Lib.hid hxr
  have HPS := Lib.hid hps
  have HPR := Lib.hid hpr
  have HPL := Lib.hid hpl
  have HM := Lib.hid hm
  have HZ := Lib.hid hz
  clear hEw hEa hN HWK hg hx hxr hps hpr hpl hm hz
  have hxi : (xs.length : Int) ≤ 140737488355328 := by omega
  go_enter Tryz.func3, Tryz.ntmps3
  go_upto_region 1 with (fail)
  refine newX (F := fun W => Code.wp _ _ _ _ W) ?_
  intro w1 h1
  have HX1 := Lib.hid h1
  clear h1
  go_upto_if 17 with (fail)
  go_cut [0] from 18 to 19 (fun v0 wx => w1 = wx ∧ ∃ ds : List Int, v0 = .slice Ax ds.length cx ∧ ds.length ≤ 30 ∧ ds.length ≤ cx ∧ Nums w Ax ds ∧ ∀ d ∈ ds, d ∈ xs)
  case first =>
    rcases Nat.lt_or_ge 30 xs.length with h30 | h30
    · have h30i : (30 : Int) < xs.length := by omega
      have h30c : (30 : Int) ≤ cx := by omega
      go_wp2_with fail
      go_meet
      exact ⟨rfl, xs.take 30, by rw [List.length_take, Nat.min_eq_left (by omega)], by rw [List.length_take]; omega, by rw [List.length_take]; omega, fun j d hj => HX.out j d (by rw [List.getElem?_take] at hj; split at hj; exact hj; cases hj), fun d hd => List.mem_of_mem_take hd⟩
    · have h30i : ¬ (30 : Int) < xs.length := by omega
      go_wp2_with fail
      go_meet
      exact ⟨rfl, xs, rfl, h30, hc, HX.out, fun d h => h⟩
  case rest =>
    obtain ⟨hwx, ds, rfl, hd30, hdc, hdx, hdm⟩ := hcut
    subst hwx
    have hgc := HG.out.below HX1.out.below
    have hKc := HK.out w1 hgc
    have HXD := Lib.hid hdx
    have HDM := Lib.hid hdm
    have hdi : (ds.length : Int) ≤ 30 := by omega
    clear hdx hdm
    rcases Nat.eq_zero_or_pos ds.length with h0 | h0
    · have h0i : ((ds.length : Int) == 0) = true := beq_iff_eq.2 (by omega)
      clear h0
      go_wp2_with (go_at_call 4; refine hKc.mono ?_; rintro e w3 ⟨rfl, hs3⟩)
      go_ret
      exact ⟨rfl, Since.trans HX1.out.below hs3⟩
    · have h0i : ((ds.length : Int) == 0) = false := beq_false_of_ne (by omega)
      go_wp2_with fail
      go_loopw [6] (fun i wr => ∃ k : Nat, k ≤ ds.length ∧ i = .int .i64 k ∧ w1 = wr ∧ ∀ j d, j < k → ds[j]? = some d → Sm d) (fun i _ => ds.length - (intOf i).toNat)
      case atStart => exact ⟨0, by omega, rfl, rfl, fun j d hj => by omega⟩
      case round =>
        obtain ⟨k, hk, rfl, hwr, hsm⟩ := hrel
        subst hwr
        by_cases hlt : k < ds.length
        · obtain ⟨d, hd⟩ : ∃ d, ds[k]? = some d := ⟨_, List.getElem?_eq_getElem hlt⟩
          obtain ⟨b, off, rfl, c0⟩ := (HXD.out.since HX1.out.below) k d hd
          have hki : (k : Int) < ds.length := by omega
          have HSM := Lib.hid hsm
          have HD := Lib.hid hd
          clear hsm hd
          rcases Int.lt_or_le d (-1000000) with h1 | h1
          · go_wp2_with (go_at_call 4; refine hKc.mono ?_; rintro e w3 ⟨rfl, hs3⟩)
            go_ret
            exact ⟨rfl, Since.trans HX1.out.below hs3⟩
          · have h1' : ¬ d < -1000000 := by omega
            rcases Int.lt_or_le 1000000 d with h2 | h2
            · go_wp2_with (go_at_call 4; refine hKc.mono ?_; rintro e w3 ⟨rfl, hs3⟩)
              go_ret
              exact ⟨rfl, Since.trans HX1.out.below hs3⟩
            · have h2' : ¬ 1000000 < d := by omega
              go_wp2_with fail
              exact ⟨⟨k + 1, by omega, by go_num, trivial, fun j d' hj hd' => by
                rcases Nat.lt_or_ge j k with h | h
                · exact HSM.out j d' h hd'
                · obtain rfl : j = k := by omega
                  rw [HD.out] at hd'
                  cases hd'
                  exact ⟨h1, h2⟩⟩, by simp [intOf]; omega⟩
        · obtain rfl : k = ds.length := by omega
          have HSM := Lib.hid (show ∀ d ∈ ds, Sm d from fun d hd => by
            obtain ⟨j, hj, e⟩ := List.getElem_of_mem hd
            exact hsm j d hj (by rw [List.getElem?_eq_getElem hj, e]))
          clear hsm
          go_wp2_with fail
          refine newX5 (F := fun W => Code.wp _ _ _ _ W) ?_
          intro w2 h2
          have z2 : w1.heap.size + 5 ≤ w2.heap.size := by have := h2.size; simpa using this
          have hst : WdSt w2 w2 (fun _ => 0) (w1.heap.size + 1 + 1) (w1.heap.size + 1) w1.heap.size 0 0 (.slice none 0 0) (.slice none 0 0) := ⟨Only.refl _ _, h2.b2 rfl, ol_nil _ _ _ _ _ _, ol_nil _ _ _ _ _ _, fresh_none _, fun _ _ => rfl⟩
          obtain ⟨i37, hi37⟩ : ∃ i, Tryz.prog.info? 37 = some i ∧ i.zero = some (.agg #[.string ⟨#[]⟩, .string ⟨#[]⟩, .slice none 0 0, .string ⟨#[]⟩, .slice none 0 0]) ∧ i.size = 5 ∧ i.bytes = 96 := by
            obtain ⟨i, h1, h2, h3, h4⟩ := info_parts Tryz.info37
            exact ⟨i, h1, h2, h3, h4⟩
          obtain ⟨i28, hi28⟩ : ∃ i, Tryz.prog.info? 28 = some i ∧ i.zero = some (.agg #[.string ⟨#[]⟩, .int .i64 0, .slice none 0 0]) ∧ i.size = 3 ∧ i.bytes = 48 := by
            obtain ⟨i, h1, h2, h3, h4⟩ := info_parts Tryz.info28
            exact ⟨i, h1, h2, h3, h4⟩
          have HI := Lib.hid hi37
          have HJ := Lib.hid hi28
          have HX2 := Lib.hid h2
          have HST := Lib.hid hst
          clear h2 hst hi37 hi28
          go_loopw [11] (fun i wr => ∃ k : Nat, k ≤ 5 ∧ i = .int .i64 k ∧ ∃ lab vn vo, WdSt w2 wr lab (w1.heap.size + 1 + 1) (w1.heap.size + 1) w1.heap.size k k vn vo) (fun i _ => 5 - (intOf i).toNat)
          case atStart => exact ⟨0, by omega, rfl, _, _, _, HST.out⟩
          case round =>
            obtain ⟨k, hk, rfl, lab, vn, vo, hs⟩ := hrel
            by_cases hlt : k < 5
            · obtain ⟨o, ho⟩ : ∃ o, wideL[k]? = some o := ⟨_, List.getElem?_eq_getElem hlt⟩
              obtain ⟨ho1, ho2⟩ := wide_ops ho
              have hom := wideL_m ho
              have c1 : wr.cell? ⟨w1.heap.size + 1 + 1 + 1, k, none⟩ = some (.string o.op) := (World.cell?_of_block (a := ⟨w1.heap.size + 1 + 1 + 1, k, none⟩) (hs.only.block (w1.heap.size + 1 + 1 + 1) (by omega) (by omega))).trans ((cell_of_row _ _ k _ 9 (0, 0) (HX2.out.b3 rfl)).trans ho1)
              have c2 : wr.cell? ⟨w1.heap.size + 1 + 1 + 1 + 1, k, none⟩ = some (.string o.out) := (World.cell?_of_block (a := ⟨w1.heap.size + 1 + 1 + 1 + 1, k, none⟩) (hs.only.block (w1.heap.size + 1 + 1 + 1 + 1) (by omega) (by omega))).trans ((cell_of_row _ _ k _ 9 (0, 0) (HX2.out.b4 rfl)).trans ho2)
              obtain ⟨Av, cv, ev⟩ := hs.on.form
              rw [List.length_take, Nat.min_eq_left (show k ≤ wideL.length from hk)] at ev
              subst ev
              have r1 : wr.cell? ⟨w1.heap.size + 1 + 1, 1, none⟩ = some (.slice Av k cv) := cell_of_row _ _ 1 _ 33 (0, 0) hs.row
              have hki : (k : Int) < 5 := by omega
              have HSd := Lib.hid (hs.since (Since.al (Since.dr (Since.refl wr)) (.cells #[.string ⟨#[120]⟩] 9)))
              have hbg : w1.heap.size + 1 + 1 < w2.heap.size := by omega
              have hwr := hs.only.size
              have hzz : (wr.drew.alloc (.cells #[.string ⟨#[120]⟩] 9)).heap.size = wr.heap.size + 1 := by
                show (wr.alloc (.cells #[.string ⟨#[120]⟩] 9)).heap.size = wr.heap.size + 1
                simp
              have y2 : w1.heap.size + 1 + 1 < wr.heap.size := by omega
              have y3 : w1.heap.size + 1 + 1 + 1 < wr.heap.size := by omega
              have y4 : w1.heap.size + 1 + 1 + 1 + 1 < wr.heap.size := by omega
              have y2' : w1.heap.size + 1 + 1 < wr.heap.size + 1 := by omega
              have hle : w2.heap.size ≤ (wr.drew.alloc (.cells #[.string ⟨#[120]⟩] 9)).heap.size := by rw [hzz]; omega
              have hR : repN0.R (wr.drew.alloc (.cells #[.string ⟨#[120]⟩] 9)) (Zl lab w2.heap.size (wr.drew.alloc (.cells #[.string ⟨#[120]⟩] 9))) [.string o.op, .string ⟨#[]⟩, .slice (some ⟨wr.heap.size, 0, none⟩) 1 1, .string o.out, .slice none 0 0] o :=
                ⟨wr.heap.size, 0, 1, by rw [hom], ⟨hs.fresh _ (Nat.le_refl _), hwr, by rw [hzz]; omega⟩, by rw [hzz]; omega, fun j hj => by
                  obtain rfl : j = 0 := by omega
                  exact cell_of_row _ _ 0 _ 9 (0, 0) (heap_alloc_new wr.drew _)⟩
              have HR := Lib.hid hR
              have HO := Lib.hid ho
              have HZZ := Lib.hid hzz
              clear hs ho ho1 ho2 hom hR hzz
              go_wp2_with fail
              go_cut [] from 57 to 71 (fun wx => ∃ lab vn, WdSt w2 wx lab (w1.heap.size + 1 + 1) (w1.heap.size + 1) w1.heap.size (k + 1) k vn vo)
              case first =>
                have d3 := c1
                have d4 := c2
                have HLO := Lib.hid HSd.out.lo
                have zX := HZZ.out
                have m3 : (wr.drew.alloc (.cells #[.string ⟨#[120]⟩] 9)).cell? ⟨w1.heap.size + 1 + 1 + 1, k, none⟩ = some (.string o.op) := (World.cell?_alloc_lt wr.drew (.cells #[.string ⟨#[120]⟩] 9) ⟨w1.heap.size + 1 + 1 + 1, k, none⟩ (by exact y3)).trans c1
                have m4 : (wr.drew.alloc (.cells #[.string ⟨#[120]⟩] 9)).cell? ⟨w1.heap.size + 1 + 1 + 1 + 1, k, none⟩ = some (.string o.out) := (World.cell?_alloc_lt wr.drew (.cells #[.string ⟨#[120]⟩] 9) ⟨w1.heap.size + 1 + 1 + 1 + 1, k, none⟩ (by exact y4)).trans c2
                have n3 : ((wr.drew.alloc (.cells #[.string ⟨#[120]⟩] 9)).alloc (.cells #[.string o.op, .string ⟨#[]⟩, .slice (some ⟨wr.heap.size, 0, none⟩) 1 1, .string o.out, .slice none 0 0] 37)).cell? ⟨w1.heap.size + 1 + 1 + 1, k, none⟩ = some (.string o.op) := (World.cell?_alloc_lt (wr.drew.alloc (.cells #[.string ⟨#[120]⟩] 9)) (.cells #[.string o.op, .string ⟨#[]⟩, .slice (some ⟨wr.heap.size, 0, none⟩) 1 1, .string o.out, .slice none 0 0] 37) ⟨w1.heap.size + 1 + 1 + 1, k, none⟩ (by dsimp only; omega)).trans m3
                have n4 : ((wr.drew.alloc (.cells #[.string ⟨#[120]⟩] 9)).alloc (.cells #[.string o.op, .string ⟨#[]⟩, .slice (some ⟨wr.heap.size, 0, none⟩) 1 1, .string o.out, .slice none 0 0] 37)).cell? ⟨w1.heap.size + 1 + 1 + 1 + 1, k, none⟩ = some (.string o.out) := (World.cell?_alloc_lt (wr.drew.alloc (.cells #[.string ⟨#[120]⟩] 9)) (.cells #[.string o.op, .string ⟨#[]⟩, .slice (some ⟨wr.heap.size, 0, none⟩) 1 1, .string o.out, .slice none 0 0] 37) ⟨w1.heap.size + 1 + 1 + 1 + 1, k, none⟩ (by dsimp only; omega)).trans m4
                refine wp_region_held_drew (S := fun W => W.cell? ⟨w1.heap.size + 1 + 1 + 1, k, none⟩ = some (.string o.op) ∧ W.cell? ⟨w1.heap.size + 1 + 1 + 1 + 1, k, none⟩ = some (.string o.out)) (by kernel_rfl) ⟨d3, d4⟩ (fun hHeld => ?_)
                refine wpAnyH_take (i := 0) (v := ?_) rfl (by kernel_rfl) (by kernel_rfl) (by kernel_rfl) (fun _ _ _ h => h) (Or.inl ⟨by rfl, ?_⟩) (by assumption) ?_
                rotate_left
                · first | (intro w hSw; (try dsimp only at hSw); go_simp; done) | (intro w hSw; (try dsimp only at hSw); go_simp; with_reducible rfl)
                try simp only [Act.put, List.getElem_toArray, List.getElem_cons_zero, List.setIfInBounds_toArray, List.set_cons_zero, List.set_cons_succ]
                refine wpAnyH_take (i := 2) (v := ?_) rfl (by kernel_rfl) (by kernel_rfl) (by kernel_rfl) (fun _ _ _ h => h) (Or.inl ⟨by rfl, ?_⟩) (by assumption) ?_
                rotate_left
                · first | (intro w hSw; (try dsimp only at hSw); go_simp; done) | (intro w hSw; (try dsimp only at hSw); go_simp; with_reducible rfl)
                try simp only [Act.put, List.getElem_toArray, List.getElem_cons_zero, List.getElem_cons_succ, List.setIfInBounds_toArray, List.set_cons_zero, List.set_cons_succ]
                refine wpAnyH_take (i := 3) (v := ?_) rfl (by kernel_rfl) (by kernel_rfl) (by kernel_rfl) (fun _ _ _ h => h) (Or.inl ⟨by rfl, ?_⟩) (by assumption) ?_
                rotate_left
                · first | (intro w hSw; (try dsimp only at hSw); go_simp; done) | (intro w hSw; (try dsimp only at hSw); go_simp; with_reducible rfl)
                try simp only [Act.put, List.getElem_toArray, List.getElem_cons_zero, List.getElem_cons_succ, List.setIfInBounds_toArray, List.set_cons_zero, List.set_cons_succ]
                refine wpAnyH_take (i := 4) (v := ?_) rfl (by kernel_rfl) (by kernel_rfl) (by kernel_rfl) (fun _ _ _ h => h) (Or.inl ⟨by rfl, ?_⟩) (by assumption) ?_
                rotate_left
                · first | (intro w hSw; (try dsimp only at hSw); go_simp; done) | (intro w hSw; (try dsimp only at hSw); go_simp; with_reducible rfl)
                try simp only [Act.put, List.getElem_toArray, List.getElem_cons_zero, List.getElem_cons_succ, List.setIfInBounds_toArray, List.set_cons_zero, List.set_cons_succ]
                refine wpAnyH_take (i := 5) (v := ?_) rfl (by kernel_rfl) (by kernel_rfl) (by kernel_rfl) (fun _ _ _ h => h) (Or.inl ⟨by rfl, ?_⟩) (by assumption) ?_
                rotate_left
                · first | (intro w hSw; (try dsimp only at hSw); go_simp; done) | (intro w hSw; (try dsimp only at hSw); go_simp; with_reducible rfl)
                try simp only [Act.put, List.getElem_toArray, List.getElem_cons_zero, List.getElem_cons_succ, List.setIfInBounds_toArray, List.set_cons_zero, List.set_cons_succ]
                refine wpAnyH_take (i := 7) (v := ?_) rfl (by kernel_rfl) (by kernel_rfl) (by kernel_rfl) (fun _ _ _ h => h) (Or.inl ⟨by rfl, ?_⟩) (by assumption) ?_
                rotate_left
                · first | (intro w hSw; (try dsimp only at hSw); go_simp; done) | (intro w hSw; (try dsimp only at hSw); go_simp; with_reducible rfl)
                try simp only [Act.put, List.getElem_toArray, List.getElem_cons_zero, List.getElem_cons_succ, List.setIfInBounds_toArray, List.set_cons_zero, List.set_cons_succ]
                refine wpAnyH_take (i := 8) (v := ?_) rfl (by kernel_rfl) (by kernel_rfl) (by kernel_rfl) (fun _ _ _ h => h) (Or.inl ⟨by rfl, ?_⟩) (by assumption) ?_
                rotate_left
                · first | (intro w hSw; (try dsimp only at hSw); go_simp; done) | (intro w hSw; (try dsimp only at hSw); go_simp; with_reducible rfl)
                try simp only [Act.put, List.getElem_toArray, List.getElem_cons_zero, List.getElem_cons_succ, List.setIfInBounds_toArray, List.set_cons_zero, List.set_cons_succ]
                refine wpAnyH_take (i := 9) (v := ?_) rfl (by kernel_rfl) (by kernel_rfl) (by kernel_rfl) (fun _ _ _ h => h) (Or.inl ⟨by rfl, ?_⟩) (by assumption) ?_
                rotate_left
                · first | (intro w hSw; (try dsimp only at hSw); go_simp; done) | (intro w hSw; (try dsimp only at hSw); go_simp; with_reducible rfl)
                try simp only [Act.put, List.getElem_toArray, List.getElem_cons_zero, List.getElem_cons_succ, List.setIfInBounds_toArray, List.set_cons_zero, List.set_cons_succ]
                refine wpAnyH_take (i := 10) (v := ?_) rfl (by kernel_rfl) (by kernel_rfl) (by kernel_rfl) (fun _ _ _ h => h) (Or.inl ⟨by rfl, ?_⟩) (by assumption) ?_
                rotate_left
                · first | (intro w hSw; (try dsimp only at hSw); go_simp; done) | (intro w hSw; (try dsimp only at hSw); go_simp; with_reducible rfl)
                try simp only [Act.put, List.getElem_toArray, List.getElem_cons_zero, List.getElem_cons_succ, List.setIfInBounds_toArray, List.set_cons_zero, List.set_cons_succ]
                refine wpAnyH_ready (rs := [1, 6]) (by kernel_rfl) (by simp) ?_
                refine (AllReadyH.cons rfl (fun K hK => ?_) (AllReadyH.cons rfl (fun K hK => ?_) AllReadyH.nil))
                · go_simp
                  refine hK.out _ _ ⟨d3, d4⟩ (fun hH0 => ?_)
                  clear hK K
                  try simp only [Act.put, List.getElem_toArray, List.getElem_cons_zero, List.getElem_cons_succ, List.setIfInBounds_toArray, List.set_cons_zero, List.set_cons_succ]
                  refine wpAnyH_ready (rs := [6]) (by kernel_rfl) (by simp) ?_
                  refine (AllReadyH.cons rfl (fun K hK => ?_) AllReadyH.nil)
                  · go_simp
                    refine hK.out _ _ ⟨m3, m4⟩ (fun hH1 => ?_)
                    clear hK K
                    try simp only [Act.put, List.getElem_toArray, List.getElem_cons_zero, List.getElem_cons_succ, List.setIfInBounds_toArray, List.set_cons_zero, List.set_cons_succ]
                    refine wpAnyH_take (i := 11) (v := ?_) rfl (by kernel_rfl) (by kernel_rfl) (by kernel_rfl) (fun _ _ _ h => h) (Or.inl ⟨by rfl, ?_⟩) (by assumption) ?_
                    rotate_left
                    · first | (intro w hSw; (try dsimp only at hSw); go_simp; done) | (intro w hSw; (try dsimp only at hSw); go_simp; with_reducible rfl)
                    try simp only [Act.put, List.getElem_toArray, List.getElem_cons_zero, List.getElem_cons_succ, List.setIfInBounds_toArray, List.set_cons_zero, List.set_cons_succ]
                    refine wpAnyH_ready (rs := [12]) (by kernel_rfl) (by simp) ?_
                    refine (AllReadyH.cons rfl (fun K hK => ?_) AllReadyH.nil)
                    · go_simp
                      refine hK.out _ _ ⟨n3, n4⟩ (fun hH3 => ?_)
                      clear hK K
                      try simp only [Act.put, List.getElem_toArray, List.getElem_cons_zero, List.getElem_cons_succ, List.setIfInBounds_toArray, List.set_cons_zero, List.set_cons_succ]
                      refine wpAnyH_ready (rs := [13]) (by kernel_rfl) (by simp) ?_
                      refine (AllReadyH.cons rfl (fun K hK => ?_) AllReadyH.nil)
                      · refine step_append_o (wr.drew.alloc (.cells #[.string ⟨#[120]⟩] 9)) repN0 o [.string o.op, .string ⟨#[]⟩, .slice (some ⟨wr.heap.size, 0, none⟩) 1 1, .string o.out, .slice none 0 0] (by rfl) (.tmp 58) (.tmp 69) 30 (by rfl) 37 i37 _ 96 Tryz.underlying30 HI.out.1 HI.out.2.1 HI.out.2.2.1 HI.out.2.2.2 rfl (by decide) (by decide) lab 1 (by decide) w2.heap.size (.slice Av k cv) (wideL.take k) (by rfl) HSd.out.on HSd.out.fresh HR.out (wr.heap.size + 1) HZZ.out.symm (by rfl) (by rw [List.length_take]; omega) hle ?_
                        intro v' w8 lab' ho8 hg8
                        obtain ⟨A8, c8, e8⟩ := ho8.form
                        rw [List.length_append, List.length_take, List.length_singleton, Nat.min_eq_left (show k ≤ wideL.length from hk)] at e8
                        subst e8
                        have hput := HSd.out.putN hbg HO.out ho8 hg8
                        have q1 : w8.cell? ⟨w1.heap.size + 1 + 1, 1, none⟩ = some (.slice Av k cv) := cell_of_row _ _ 1 _ 33 (0, 0) (hput.1.trans HSd.out.row)
                        have qf := frozen_row (hput.1.trans HSd.out.row) 1
                        have q3 := (World.cell?_of_block (a := ⟨w1.heap.size + 1 + 1 + 1, k, none⟩) (hg8.keep (w1.heap.size + 1 + 1 + 1) (by omega) (by rw [HLO.out _ (by omega)]; decide))).trans m3
                        have q4 := (World.cell?_of_block (a := ⟨w1.heap.size + 1 + 1 + 1 + 1, k, none⟩) (hg8.keep (w1.heap.size + 1 + 1 + 1 + 1) (by omega) (by rw [HLO.out _ (by omega)]; decide))).trans m4
                        have r3 := (World.cell?_setCell_far w8 ⟨w1.heap.size + 1 + 1, 1, none⟩ ⟨w1.heap.size + 1 + 1 + 1, k, none⟩ (.slice A8 (k + 1) c8) (by dsimp only; omega)).trans q3
                        have r4 := (World.cell?_setCell_far w8 ⟨w1.heap.size + 1 + 1, 1, none⟩ ⟨w1.heap.size + 1 + 1 + 1 + 1, k, none⟩ (.slice A8 (k + 1) c8) (by dsimp only; omega)).trans q4
                        have HPUT := Lib.hid hput.2
                        clear hput ho8 hg8
                        refine hK.out _ _ ⟨q3, q4⟩ (fun hH4 => ?_)
                        clear hK K
                        try simp only [Act.put, List.getElem_toArray, List.getElem_cons_zero, List.getElem_cons_succ, List.setIfInBounds_toArray, List.set_cons_zero, List.set_cons_succ]
                        refine wpAnyH_take (i := 14) (v := ?_) rfl (by kernel_rfl) (by kernel_rfl) (by kernel_rfl) (fun _ _ _ h => h) (Or.inl ⟨by rfl, ?_⟩) (by assumption) ?_
                        rotate_left
                        · first | (intro w hSw; (try dsimp only at hSw); go_simp; done) | (intro w hSw; (try dsimp only at hSw); go_simp; with_reducible rfl)
                        try simp only [Act.put, List.getElem_toArray, List.getElem_cons_zero, List.getElem_cons_succ, List.setIfInBounds_toArray, List.set_cons_zero, List.set_cons_succ]
                        refine wpAnyH_ready (rs := [15]) (by kernel_rfl) (by simp) ?_
                        refine (AllReadyH.cons rfl (fun K hK => ?_) AllReadyH.nil)
                        · go_simp
                          refine hK.out _ _ ⟨r3, r4⟩ (fun hH6 => ?_)
                          clear hK K
                          try simp only [Act.put, List.getElem_toArray, List.getElem_cons_zero, List.getElem_cons_succ, List.setIfInBounds_toArray, List.set_cons_zero, List.set_cons_succ]
                          refine wpAnyH_done (by kernel_rfl) ?_ _
                          go_wp2_with fail
                          go_meet
                          exact ⟨_, _, HPUT.out⟩
                · go_simp
                  refine hK.out _ _ ⟨m3, m4⟩ (fun hH0 => ?_)
                  clear hK K
                  try simp only [Act.put, List.getElem_toArray, List.getElem_cons_zero, List.getElem_cons_succ, List.setIfInBounds_toArray, List.set_cons_zero, List.set_cons_succ]
                  refine wpAnyH_take (i := 11) (v := ?_) rfl (by kernel_rfl) (by kernel_rfl) (by kernel_rfl) (fun _ _ _ h => h) (Or.inl ⟨by rfl, ?_⟩) (by assumption) ?_
                  rotate_left
                  · first | (intro w hSw; (try dsimp only at hSw); go_simp; done) | (intro w hSw; (try dsimp only at hSw); go_simp; with_reducible rfl)
                  try simp only [Act.put, List.getElem_toArray, List.getElem_cons_zero, List.getElem_cons_succ, List.setIfInBounds_toArray, List.set_cons_zero, List.set_cons_succ]
                  refine wpAnyH_ready (rs := [1, 12]) (by kernel_rfl) (by simp) ?_
                  refine (AllReadyH.cons rfl (fun K hK => ?_) (AllReadyH.cons rfl (fun K hK => ?_) AllReadyH.nil))
                  · go_simp
                    refine hK.out _ _ ⟨m3, m4⟩ (fun hH2 => ?_)
                    clear hK K
                    try simp only [Act.put, List.getElem_toArray, List.getElem_cons_zero, List.getElem_cons_succ, List.setIfInBounds_toArray, List.set_cons_zero, List.set_cons_succ]
                    refine wpAnyH_ready (rs := [12]) (by kernel_rfl) (by simp) ?_
                    refine (AllReadyH.cons rfl (fun K hK => ?_) AllReadyH.nil)
                    · go_simp
                      refine hK.out _ _ ⟨n3, n4⟩ (fun hH3 => ?_)
                      clear hK K
                      try simp only [Act.put, List.getElem_toArray, List.getElem_cons_zero, List.getElem_cons_succ, List.setIfInBounds_toArray, List.set_cons_zero, List.set_cons_succ]
                      refine wpAnyH_ready (rs := [13]) (by kernel_rfl) (by simp) ?_
                      refine (AllReadyH.cons rfl (fun K hK => ?_) AllReadyH.nil)
                      · refine step_append_o (wr.drew.alloc (.cells #[.string ⟨#[120]⟩] 9)) repN0 o [.string o.op, .string ⟨#[]⟩, .slice (some ⟨wr.heap.size, 0, none⟩) 1 1, .string o.out, .slice none 0 0] (by rfl) (.tmp 58) (.tmp 69) 30 (by rfl) 37 i37 _ 96 Tryz.underlying30 HI.out.1 HI.out.2.1 HI.out.2.2.1 HI.out.2.2.2 rfl (by decide) (by decide) lab 1 (by decide) w2.heap.size (.slice Av k cv) (wideL.take k) (by rfl) HSd.out.on HSd.out.fresh HR.out (wr.heap.size + 1) HZZ.out.symm (by rfl) (by rw [List.length_take]; omega) hle ?_
                        intro v' w8 lab' ho8 hg8
                        obtain ⟨A8, c8, e8⟩ := ho8.form
                        rw [List.length_append, List.length_take, List.length_singleton, Nat.min_eq_left (show k ≤ wideL.length from hk)] at e8
                        subst e8
                        have hput := HSd.out.putN hbg HO.out ho8 hg8
                        have q1 : w8.cell? ⟨w1.heap.size + 1 + 1, 1, none⟩ = some (.slice Av k cv) := cell_of_row _ _ 1 _ 33 (0, 0) (hput.1.trans HSd.out.row)
                        have qf := frozen_row (hput.1.trans HSd.out.row) 1
                        have q3 := (World.cell?_of_block (a := ⟨w1.heap.size + 1 + 1 + 1, k, none⟩) (hg8.keep (w1.heap.size + 1 + 1 + 1) (by omega) (by rw [HLO.out _ (by omega)]; decide))).trans m3
                        have q4 := (World.cell?_of_block (a := ⟨w1.heap.size + 1 + 1 + 1 + 1, k, none⟩) (hg8.keep (w1.heap.size + 1 + 1 + 1 + 1) (by omega) (by rw [HLO.out _ (by omega)]; decide))).trans m4
                        have r3 := (World.cell?_setCell_far w8 ⟨w1.heap.size + 1 + 1, 1, none⟩ ⟨w1.heap.size + 1 + 1 + 1, k, none⟩ (.slice A8 (k + 1) c8) (by dsimp only; omega)).trans q3
                        have r4 := (World.cell?_setCell_far w8 ⟨w1.heap.size + 1 + 1, 1, none⟩ ⟨w1.heap.size + 1 + 1 + 1 + 1, k, none⟩ (.slice A8 (k + 1) c8) (by dsimp only; omega)).trans q4
                        have HPUT := Lib.hid hput.2
                        clear hput ho8 hg8
                        refine hK.out _ _ ⟨q3, q4⟩ (fun hH4 => ?_)
                        clear hK K
                        try simp only [Act.put, List.getElem_toArray, List.getElem_cons_zero, List.getElem_cons_succ, List.setIfInBounds_toArray, List.set_cons_zero, List.set_cons_succ]
                        refine wpAnyH_take (i := 14) (v := ?_) rfl (by kernel_rfl) (by kernel_rfl) (by kernel_rfl) (fun _ _ _ h => h) (Or.inl ⟨by rfl, ?_⟩) (by assumption) ?_
                        rotate_left
                        · first | (intro w hSw; (try dsimp only at hSw); go_simp; done) | (intro w hSw; (try dsimp only at hSw); go_simp; with_reducible rfl)
                        try simp only [Act.put, List.getElem_toArray, List.getElem_cons_zero, List.getElem_cons_succ, List.setIfInBounds_toArray, List.set_cons_zero, List.set_cons_succ]
                        refine wpAnyH_ready (rs := [15]) (by kernel_rfl) (by simp) ?_
                        refine (AllReadyH.cons rfl (fun K hK => ?_) AllReadyH.nil)
                        · go_simp
                          refine hK.out _ _ ⟨r3, r4⟩ (fun hH6 => ?_)
                          clear hK K
                          try simp only [Act.put, List.getElem_toArray, List.getElem_cons_zero, List.getElem_cons_succ, List.setIfInBounds_toArray, List.set_cons_zero, List.set_cons_succ]
                          refine wpAnyH_done (by kernel_rfl) ?_ _
                          go_wp2_with fail
                          go_meet
                          exact ⟨_, _, HPUT.out⟩
                  · go_simp
                    refine hK.out _ _ ⟨n3, n4⟩ (fun hH2 => ?_)
                    clear hK K
                    try simp only [Act.put, List.getElem_toArray, List.getElem_cons_zero, List.getElem_cons_succ, List.setIfInBounds_toArray, List.set_cons_zero, List.set_cons_succ]
                    refine wpAnyH_ready (rs := [1]) (by kernel_rfl) (by simp) ?_
                    refine (AllReadyH.cons rfl (fun K hK => ?_) AllReadyH.nil)
                    · go_simp
                      refine hK.out _ _ ⟨n3, n4⟩ (fun hH3 => ?_)
                      clear hK K
                      try simp only [Act.put, List.getElem_toArray, List.getElem_cons_zero, List.getElem_cons_succ, List.setIfInBounds_toArray, List.set_cons_zero, List.set_cons_succ]
                      refine wpAnyH_ready (rs := [13]) (by kernel_rfl) (by simp) ?_
                      refine (AllReadyH.cons rfl (fun K hK => ?_) AllReadyH.nil)
                      · refine step_append_o (wr.drew.alloc (.cells #[.string ⟨#[120]⟩] 9)) repN0 o [.string o.op, .string ⟨#[]⟩, .slice (some ⟨wr.heap.size, 0, none⟩) 1 1, .string o.out, .slice none 0 0] (by rfl) (.tmp 58) (.tmp 69) 30 (by rfl) 37 i37 _ 96 Tryz.underlying30 HI.out.1 HI.out.2.1 HI.out.2.2.1 HI.out.2.2.2 rfl (by decide) (by decide) lab 1 (by decide) w2.heap.size (.slice Av k cv) (wideL.take k) (by rfl) HSd.out.on HSd.out.fresh HR.out (wr.heap.size + 1) HZZ.out.symm (by rfl) (by rw [List.length_take]; omega) hle ?_
                        intro v' w8 lab' ho8 hg8
                        obtain ⟨A8, c8, e8⟩ := ho8.form
                        rw [List.length_append, List.length_take, List.length_singleton, Nat.min_eq_left (show k ≤ wideL.length from hk)] at e8
                        subst e8
                        have hput := HSd.out.putN hbg HO.out ho8 hg8
                        have q1 : w8.cell? ⟨w1.heap.size + 1 + 1, 1, none⟩ = some (.slice Av k cv) := cell_of_row _ _ 1 _ 33 (0, 0) (hput.1.trans HSd.out.row)
                        have qf := frozen_row (hput.1.trans HSd.out.row) 1
                        have q3 := (World.cell?_of_block (a := ⟨w1.heap.size + 1 + 1 + 1, k, none⟩) (hg8.keep (w1.heap.size + 1 + 1 + 1) (by omega) (by rw [HLO.out _ (by omega)]; decide))).trans m3
                        have q4 := (World.cell?_of_block (a := ⟨w1.heap.size + 1 + 1 + 1 + 1, k, none⟩) (hg8.keep (w1.heap.size + 1 + 1 + 1 + 1) (by omega) (by rw [HLO.out _ (by omega)]; decide))).trans m4
                        have r3 := (World.cell?_setCell_far w8 ⟨w1.heap.size + 1 + 1, 1, none⟩ ⟨w1.heap.size + 1 + 1 + 1, k, none⟩ (.slice A8 (k + 1) c8) (by dsimp only; omega)).trans q3
                        have r4 := (World.cell?_setCell_far w8 ⟨w1.heap.size + 1 + 1, 1, none⟩ ⟨w1.heap.size + 1 + 1 + 1 + 1, k, none⟩ (.slice A8 (k + 1) c8) (by dsimp only; omega)).trans q4
                        have HPUT := Lib.hid hput.2
                        clear hput ho8 hg8
                        refine hK.out _ _ ⟨q3, q4⟩ (fun hH4 => ?_)
                        clear hK K
                        try simp only [Act.put, List.getElem_toArray, List.getElem_cons_zero, List.getElem_cons_succ, List.setIfInBounds_toArray, List.set_cons_zero, List.set_cons_succ]
                        refine wpAnyH_take (i := 14) (v := ?_) rfl (by kernel_rfl) (by kernel_rfl) (by kernel_rfl) (fun _ _ _ h => h) (Or.inl ⟨by rfl, ?_⟩) (by assumption) ?_
                        rotate_left
                        · first | (intro w hSw; (try dsimp only at hSw); go_simp; done) | (intro w hSw; (try dsimp only at hSw); go_simp; with_reducible rfl)
                        try simp only [Act.put, List.getElem_toArray, List.getElem_cons_zero, List.getElem_cons_succ, List.setIfInBounds_toArray, List.set_cons_zero, List.set_cons_succ]
                        refine wpAnyH_ready (rs := [15]) (by kernel_rfl) (by simp) ?_
                        refine (AllReadyH.cons rfl (fun K hK => ?_) AllReadyH.nil)
                        · go_simp
                          refine hK.out _ _ ⟨r3, r4⟩ (fun hH6 => ?_)
                          clear hK K
                          try simp only [Act.put, List.getElem_toArray, List.getElem_cons_zero, List.getElem_cons_succ, List.setIfInBounds_toArray, List.set_cons_zero, List.set_cons_succ]
                          refine wpAnyH_done (by kernel_rfl) ?_ _
                          go_wp2_with fail
                          go_meet
                          exact ⟨_, _, HPUT.out⟩
              case rest =>
                obtain ⟨lab2, vn2, hs2⟩ := hcut
                obtain ⟨ho1, ho2⟩ := wide_ops HO.out
                have c2' : wc.cell? ⟨w1.heap.size + 1 + 1 + 1 + 1, k, none⟩ = some (.string o.out) := (World.cell?_of_block (a := ⟨w1.heap.size + 1 + 1 + 1 + 1, k, none⟩) (hs2.only.block (w1.heap.size + 1 + 1 + 1 + 1) (by omega) (by omega))).trans ((cell_of_row _ _ k _ 9 (0, 0) (HX2.out.b4 rfl)).trans ho2)
                obtain ⟨Ao, co, eo⟩ := hs2.oo.form
                rw [List.length_map, List.length_take, Nat.min_eq_left (show k ≤ wideL.length from hk)] at eo
                subst eo
                have r3 : wc.cell? ⟨w1.heap.size + 1 + 1, 3, none⟩ = some (.slice Ao k co) := cell_of_row _ _ 3 _ 33 (0, 0) hs2.row
                have HSe := Lib.hid (hs2.since (Since.dr (Since.refl wc)))
                have hwc := hs2.only.size
                have x2 : w1.heap.size + 1 + 1 < wc.heap.size := by omega
                have x4 : w1.heap.size + 1 + 1 + 1 + 1 < wc.heap.size := by omega
                have hle2 : w2.heap.size ≤ wc.drew.heap.size := hwc
                clear hs2 ho1 ho2 c1 c2 r1 HR HZZ HSd
                go_wp2_with fail
                first | (go_region_law (first
                  | (refine step_append_o wc.drew (repRaw 3) (rawO w1.heap.size o) [.string o.out, .int .i64 6, .slice (some ⟨w1.heap.size, 0, none⟩) 1 1] rfl (.tmp 73) (.tmp 80) 29 rfl 28 i28 _ 48 Tryz.underlying29 HJ.out.1 HJ.out.2.1 HJ.out.2.2.1 HJ.out.2.2.2 rfl (by decide) (by decide) lab2 2 (by decide) w2.heap.size (.slice Ao k co) ((wideL.take k).map (rawO w1.heap.size)) rfl HSe.out.oo HSe.out.fresh ⟨rfl, rfl, by simp [Value.oneCell', rawO]⟩ wc.drew.heap.size rfl rfl (by rw [List.length_map, List.length_take]; omega) hle2 ?_; intro v' w8 lab' ho8 hg8; obtain ⟨A8, c8, e8⟩ := ho8.form; rw [List.length_append, List.length_map, List.length_take, List.length_singleton, Nat.min_eq_left (show k ≤ wideL.length from hk)] at e8; subst e8; have hput := HSe.out.putO hbg HO.out ho8 hg8; have y1 : w8.cell? ⟨w1.heap.size + 1 + 1, 3, none⟩ = some (.slice Ao k co) := cell_of_row _ _ 3 _ 33 (0, 0) (hput.1.trans HSe.out.row); have yf := frozen_row (hput.1.trans HSe.out.row) 3))) | fail
                all_goals
                  have HPUT := Lib.hid hput.2
                  clear hput y1 yf ho8 hg8
                  go_wp2_with fail
                  exact ⟨⟨k + 1, by omega, by go_num, _, _, _, HPUT.out⟩, by simp [intOf]; omega⟩
            · obtain rfl : k = 5 := by omega
              have hbs : Since w1 wr := HX2.out.below.trans (hs.only.below (by omega) (by omega))
              have hswr : Since w wr := Since.trans HX1.out.below hbs
              have hgr : Gl wr := HG.out.below hswr
              have fi := hs.only.block (w1.heap.size + 1) (by omega) (by omega) |>.trans (HX2.out.b1 rfl)
              have fd := hs.only.block w1.heap.size (by omega) (by omega) |>.trans (HX2.out.b0 rfl)
              obtain ⟨i0, i1, i2, -⟩ := cells3 fi
              obtain ⟨d0, -⟩ := cells1 fd
              have zr := hs.only.size
              have hone : One wr (some ⟨w1.heap.size, 0, none⟩) (ds.length : Nat) := ⟨_, _, rfl, by omega, d0⟩
              have hvl : VlAt wr (some ⟨w1.heap.size + 1, 0, none⟩) [⟨#[120]⟩] (ds.length : Nat) := ⟨_, _, rfl, by omega, fun j s hj => by
                match j, hj with
                | 0, hj => cases hj; exact ⟨_, _, by simpa using i0, by simpa using i1, by simpa using i2, hone⟩
                | j + 1, hj => simp at hj⟩
              obtain ⟨An, cn, Ao, co, rfl, rfl, hF, hNM⟩ := hs.flat ds.length (by omega) hd30 hgr hvl hone
              obtain ⟨r1, hr1, hp1⟩ := pick_any mk 16 (by omega) (by omega) HM.out.1 HM.out.2
              obtain ⟨r2, hr2, hp2⟩ := pick_any sz 9 (by omega) (by omega) HZ.out.1 HZ.out.2
              obtain ⟨s, hE, hD⟩ := HW.out ds.length (by omega) hd30
              have hw1 : IntKind.i64.wrap (1 + (r2 : Int)) = 1 + (r2 : Int) := by rw [IntKind.wrap_i64]; omega
              obtain ⟨g0, g1, g2, g3, g4, -⟩ := cells5 hs.row
              obtain ⟨b0, b1, b2, -⟩ := cells3 (hbs.kp (HX1.out.b0 rfl))
              have hso : ∀ o ∈ wideL, ∀ d ∈ ds, Sm (opV o.op d) := fun o ho d hd => by
                have h1 := HSM.out d hd
                simp only [wideL, List.mem_cons, List.not_mem_nil, or_false] at ho
                rcases ho with rfl | rfl | rfl | rfl | rfl
                · rw [opV_neg]; unfold Sm at *; omega
                · rw [opV_abs]; unfold Sm at *; omega
                · rw [opV_idn]; exact h1
                · rw [opV_neg]; unfold Sm at *; omega
                · rw [opV_abs]; unfold Sm at *; omega
              have hRun : ∀ W, Since (wr.alloc (.cells #[.int .i64 6, .slice (some ⟨w1.heap.size, 0, none⟩) 1 1, .slice Ax ds.length cx] 44)) W → Calls Tryz.prog 5 #[.agg #[.string ⟨#[]⟩, .slice An 5 cn, .slice (some ⟨w1.heap.size + 1, 0, none⟩) 1 1, .slice Ao 5 co, .slice none 0 0], .int .i64 r1, .slice (some ⟨wr.heap.size, 0, none⟩) 1 1, .int .i64 (1 + (r2 : Int)), .slice Pk ps.length ck] W fun e w' => ∃ v, e = .returned (.tuple #[v, .int .i64 0]) ∧ IsSlc repTn w' (fun k => W.heap.size ≤ k ∧ k < w'.heap.size) v (wideL.map (fun o => tnOf ds.length (ds.map (opV o.op)))) ∧ Since W w' := fun W hW => by
                have hsW : Since wr W := (Since.al (Since.refl wr) _).trans hW
                obtain ⟨t0, t1, t2, -⟩ := cells3 (hW.kp (heap_alloc_new wr _))
                have hlt := hW.size
                have hnu : Nums W Ax ds := HXD.out.since (hswr.trans hsW)
                rw [show (1 + (r2 : Int)) = ((1 + r2 : Nat) : Int) by omega]
                refine grun_of s An _ Ao (some ⟨wr.heap.size, 0, none⟩) Pk cn 1 co 1 ck (1 + r2) r1 wideL ds.length ds ps W (hF.below hsW) (hNM.below hsW) (HPS.out.since (hswr.trans hsW)) HPL.out HPR.out (by omega) rfl (by omega) (by omega) HSM.out hso ⟨_, _, rfl, by simp at hlt; omega, fun j hj => ?_⟩ (fun o ho hop => by decide) (fun W hW hW2 => hE _ _ _ _ _ _ W hW hW2) hD (fun An Ai Ao Ap cn ci co cp W q1 q2 q3 q4 => HN.out An Ai Ao Ap _ cn ci co cp 1 _ wideL ds.length ds W q1 q2 q3 q4 (by omega) (by omega))
                obtain rfl : j = 0 := by omega
                exact ⟨_, _, _, _, by simpa using t0, by simpa using t1, by simpa using t2, ⟨rfl, by omega, hd30, hone.below hsW, hnu, HSM.out⟩⟩
              have HRUN := Lib.hid hRun
              have HP1 := Lib.hid (show ∀ W, Calls Tryz.prog 6 #[.int .i64 mk, .int .i64 16] W (fun e w' => e = .returned (.int .i64 r1) ∧ w' = W) from hp1)
              have HP2 := Lib.hid (show ∀ W, Calls Tryz.prog 6 #[.int .i64 sz, .int .i64 9] W (fun e w' => e = .returned (.int .i64 r2) ∧ w' = W) from hp2)
              have HSWR := Lib.hid hswr
              have HKP := Lib.hid (show ∀ W, Since wr W → W.cell? ⟨w1.heap.size + 1 + 1, 0, none⟩ = some (.string ⟨#[]⟩) ∧ W.cell? ⟨w1.heap.size + 1 + 1, 1, none⟩ = some (.slice An 5 cn) ∧ W.cell? ⟨w1.heap.size + 1 + 1, 2, none⟩ = some (.slice (some ⟨w1.heap.size + 1, 0, none⟩) 1 1) ∧ W.cell? ⟨w1.heap.size + 1 + 1, 3, none⟩ = some (.slice Ao 5 co) ∧ W.cell? ⟨w1.heap.size + 1 + 1, 4, none⟩ = some (.slice none 0 0) ∧ W.cell? ⟨w.heap.size, 0, none⟩ = some (.int .i64 mk) ∧ W.cell? ⟨w.heap.size, 1, none⟩ = some (.int .i64 sz) ∧ W.cell? ⟨w.heap.size, 2, none⟩ = some (.slice Pk ps.length ck) from fun W hW => by
                obtain ⟨a0, a1, a2, a3, a4, -⟩ := cells5 (hW.kp hs.row)
                obtain ⟨a5, a6, a7, -⟩ := cells3 (hW.kp (hbs.kp (HX1.out.b0 rfl)))
                exact ⟨a0, a1, a2, a3, a4, a5, a6, a7⟩)
              clear hs hbs hswr hgr fi fd i0 i1 i2 d0 hone hvl hF hNM hp1 hp2 hE hD hso hRun b0 b1 b2
              go_wp2_with fail
              go_cut [12, 13] from 83 to 100 (fun v12 v13 wx => ∃ b off c, v12 = .slice (some ⟨b, off, none⟩) 5 c ∧ v13 = .int .i64 0 ∧ Since wr wx ∧ ∀ (j : Nat) (o : Op1), wideL[j]? = some o → ∃ At ct, wx.cell? ⟨b, off + j * 3 + 2, none⟩ = some (.slice At ds.length ct) ∧ Nums wx At (ds.map (opV o.op)))
              case first =>
                go_region_held3 (fun W => W.cell? ⟨w1.heap.size + 1 + 1, 0, none⟩ = some (.string ⟨#[]⟩) ∧ W.cell? ⟨w1.heap.size + 1 + 1, 1, none⟩ = some (.slice An 5 cn) ∧ W.cell? ⟨w1.heap.size + 1 + 1, 2, none⟩ = some (.slice (some ⟨w1.heap.size + 1, 0, none⟩) 1 1) ∧ W.cell? ⟨w1.heap.size + 1 + 1, 3, none⟩ = some (.slice Ao 5 co) ∧ W.cell? ⟨w1.heap.size + 1 + 1, 4, none⟩ = some (.slice none 0 0) ∧ W.cell? ⟨w.heap.size, 0, none⟩ = some (.int .i64 mk) ∧ W.cell? ⟨w.heap.size, 1, none⟩ = some (.int .i64 sz) ∧ W.cell? ⟨w.heap.size, 2, none⟩ = some (.slice Pk ps.length ck)) (first | with_reducible exact HKP.out _ (Since.refl wr).dr | with_reducible exact HKP.out _ ((Since.refl wr).al _).dr | with_reducible exact HKP.out _ hs8) ((first | (go_at_call 6; ((first | (with_reducible refine (HP1.out _).mono ?_) | (with_reducible refine (HP2.out _).mono ?_)); rintro e w5 ⟨rfl, rfl⟩)) | (go_at_call 5; ((with_reducible refine (HRUN.out _ (Since.refl _).dr).mono ?_); rintro e w8 ⟨v, rfl, hi, hs8'⟩; have hs8 : Since wr w8 := Since.trans ((Since.refl wr).al _).dr hs8'; obtain ⟨b, off, c, ev, hc⟩ := hi.tn (show 0 < 5 by omega); rw [show (wideL.map (fun o => tnOf ds.length (ds.map (opV o.op)))).length = 5 from rfl] at ev; subst ev))))
                all_goals
                  have HHC := Lib.hid (And.intro hs8 hc)
                  clear hs8 hc hi hs8'
                  go_wp2_with fail
                  go_meet
                  refine ⟨b, off, c, rfl, rfl, HHC.out.1, fun j o hj => ?_⟩
                  obtain ⟨Ad, cd, At, ct, q0, q1, q2, q3, q4⟩ := HHC.out.2 j _ (ds.map (opV o.op)) (by rw [List.getElem?_map, hj]; rfl)
                  rw [List.length_map] at q2
                  exact ⟨At, ct, q2, q4⟩
              case rest =>
                obtain ⟨b, off, c, rfl, rfl, hs8, hc⟩ := hcut
                obtain ⟨A0, t0, u0, n0⟩ := hc 0 _ rfl
                obtain ⟨A1, t1, u1, n1⟩ := hc 1 _ rfl
                obtain ⟨A2, t2, u2, n2⟩ := hc 2 _ rfl
                obtain ⟨A3, t3, u3, n3⟩ := hc 3 _ rfl
                obtain ⟨A4, t4, u4', n4⟩ := hc 4 _ rfl
                simp only [Nat.zero_mul, Nat.one_mul, Nat.add_zero, Nat.reduceMul] at u0 u1 u2 u3 u4'
                have hsw8 : Since w wc := Since.trans HSWR.out hs8
                have hKc2 := HK.out wc (HG.out.below hsw8)
                have HN5 := Lib.hid (And.intro n0 (And.intro n1 (And.intro n2 (And.intro n3 n4))))
                have HXW := Lib.hid (HXD.out.since hsw8)
                have HSW8 := Lib.hid hsw8
                clear hc n0 n1 n2 n3 n4 hsw8 hs8 HKP HRUN HP1 HP2 hw1
                go_wp2_with fail
                go_loopw [14] (fun i wq => ∃ k : Nat, k ≤ ds.length ∧ i = .int .i64 k ∧ Since wc wq) (fun i _ => ds.length - (intOf i).toNat)
                case atStart => exact ⟨0, by omega, rfl, Since.refl _⟩
                case round =>
                  obtain ⟨k, hk, rfl, hwq⟩ := hrel
                  have HWQ := Lib.hid hwq
                  have cu : ∀ i v, wc.cell? ⟨b, i, none⟩ = some v → wr.cell? ⟨b, i, none⟩ = some v := fun i v hv => (HWQ.out.cell (p := ⟨b, i, none⟩) (World.block_lt_of_cell? wc _ hv)).trans hv
                  have u0 := cu _ _ u0
                  have u1 := cu _ _ u1
                  have u2 := cu _ _ u2
                  have u3 := cu _ _ u3
                  have u4' := cu _ _ u4'
                  have hKc3 := HK.out wr (HG.out.below (HSW8.out.trans hwq))
                  clear cu hwq hKc2
                  by_cases hlt : k < ds.length
                  · obtain ⟨d, hd⟩ : ∃ d, ds[k]? = some d := ⟨_, List.getElem?_eq_getElem hlt⟩
                    obtain ⟨n0, n1, n2, n3, n4⟩ := HN5.out
                    obtain ⟨b0, o0, rfl, c0⟩ := (n0.since HWQ.out) k (opV _ d) (by rw [List.getElem?_map, hd]; rfl)
                    obtain ⟨b1, o1, rfl, c1⟩ := (n1.since HWQ.out) k (opV _ d) (by rw [List.getElem?_map, hd]; rfl)
                    obtain ⟨b2, o2, rfl, c2⟩ := (n2.since HWQ.out) k (opV _ d) (by rw [List.getElem?_map, hd]; rfl)
                    obtain ⟨b3, o3, rfl, c3⟩ := (n3.since HWQ.out) k (opV _ d) (by rw [List.getElem?_map, hd]; rfl)
                    obtain ⟨b4, o4, rfl, c4⟩ := (n4.since HWQ.out) k (opV _ d) (by rw [List.getElem?_map, hd]; rfl)
                    obtain ⟨bx, ox, rfl, c5⟩ := (HXW.out.since HWQ.out) k d hd
                    rw [opV_neg] at c0 c3
                    rw [opV_abs] at c1 c4
                    rw [opV_idn] at c2
                    obtain ⟨q1, q2⟩ : Sm d := HSM.out d (List.mem_of_getElem? hd)
                    have hki : (k : Int) < ds.length := by omega
                    clear n0 n1 n2 n3 n4 hd
                    go_wp2_with fail
                    go_quiet (fail)
                    go_wp2_with fail
                    exact ⟨⟨k + 1, by omega, by go_num, HWQ.out.drN _⟩, by simp [intOf]; omega⟩
                  · obtain rfl : k = ds.length := by omega
                    go_wp2_with (go_at_call 4; refine hKc3.mono ?_; rintro e w9 ⟨rfl, hs9⟩)
                    go_ret
                    exact ⟨rfl, Since.trans (Since.trans HSW8.out HWQ.out) hs9⟩
end Go.Proofs.YtbilddeepnnogaaGreatDoor
