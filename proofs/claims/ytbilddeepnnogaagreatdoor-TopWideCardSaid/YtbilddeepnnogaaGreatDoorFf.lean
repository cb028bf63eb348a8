import Derived.Test.YtbilddeepnnogaaGreatDoorFem
set_option linter.unusedVariables false
set_option linter.unusedSimpArgs false
/- A pass' beginning: fusion's (printed by gen_tw_sorted.py). -/
set_option linter.unusedVariables false
set_option maxRecDepth 100000
namespace Go.Proofs.YtbilddeepnnogaaGreatDoor
open Go.RowKit Go.Shelf

set_option maxHeartbeats 6400000 in
theorem usorted_any (gn : ByteArray) (An Ai Ao : Option Addr) (cn ci co : Nat) (l : List Op1) (x : Int) (w : World) (h : FlatG w An Ai Ao l x) :
    Calls Tryz.prog 103 #[.agg #[.string gn, .slice An l.length cn, .slice Ai 1 ci, .slice Ao l.length co, .slice none 0 0]] w fun e w' => ∃ An' Ai' Ao' cn' ci' co', e = .returned (.tuple #[.agg #[.string gn, .slice An' l.length cn', .slice Ai' 1 ci', .slice Ao' l.length co', .slice none 0 0], .int .i64 0]) ∧ FlatG w' An' Ai' Ao' l x ∧ Below w.heap.size w w' := by
  have H := Lib.hid h
  have H5 := h.ok.most
  have H0 := h.ok.pos
  have hnl : (l.length : Int) ≤ 5 := by omega
  clear h
  go_enter Tryz.func103, Tryz.ntmps103
  go_wp2_with fail
  refine newX2 (F := fun W => Calls _ _ _ W _) ?_
  intro w1 h1
  refine (all_any gn An Ai Ao cn ci co l x w1 (H.out.below h1.below)).mono ?_
  rintro e w2 ⟨A, c, rfl, hv, hb⟩
  have h2 := h1.all hb
  clear hb h1
  have HX := Lib.hid h2
  obtain ⟨r0, r1, r2, r3, r4, -⟩ := cells5 (h2.b0 rfl)
  have HKS := Lib.hid (show ∀ W, Since w2 W → (W.cell? ⟨w.heap.size, 0, none⟩ = some (.string gn) ∧ W.cell? ⟨w.heap.size, 2, none⟩ = some (.slice Ai 1 ci) ∧ W.cell? ⟨w.heap.size, 3, none⟩ = some (.slice Ao l.length co) ∧ W.cell? ⟨w.heap.size, 4, none⟩ = some (.slice none 0 0)) from fun W hW => by
    obtain ⟨e0, e1, e2, e3, e4, -⟩ := cells5 ((HX.out.all hW).b0 rfl)
    exact ⟨e0, e2, e3, e4⟩)
  have HCi := Lib.hid (fun W (hs : Since w2 W) => ownC183 (c := ci) (W := W) (ns := [⟨#[120]⟩]) (n := 1) rfl (H.out.below h2.below).ins hs (by omega) (by omega))
  have HCo := Lib.hid (fun W (hs : Since w2 W) => ownC183 (c := co) (W := W) (ns := l.map (·.out)) (n := l.length) (by simp) (H.out.below h2.below).outs hs H0 H5)
  clear hv h2
  go_wp2_with fail
  go_cut [6] from 21 to 33 (fun v7 wx => ∃ N Ai' Ao' ci' co', v7 = .pointer (some ⟨N, 0, none⟩) ∧ Sg w2 wx gn N Ai' Ao' ci' co' l x)
  case first =>
    go_region_held3 (fun W => (W.cell? ⟨w.heap.size, 0, none⟩ = some (.string gn) ∧ W.cell? ⟨w.heap.size, 2, none⟩ = some (.slice Ai 1 ci) ∧ W.cell? ⟨w.heap.size, 3, none⟩ = some (.slice Ao l.length co) ∧ W.cell? ⟨w.heap.size, 4, none⟩ = some (.slice none 0 0)) ∧ Since w2 W)
      (first
        | exact ⟨HKS.out _ (Since.refl _).dr, (Since.refl _).dr⟩
        | (refine (fun h => ⟨HKS.out _ h, h⟩) ?_; first | with_reducible assumption | with_reducible exact ((Since.refl _).al _).dr | with_reducible exact (Since.al (And.right (a := _ ∧ _) (by with_reducible assumption)) _) | with_reducible exact (Since.al' (And.right (a := _ ∧ _) (by with_reducible assumption)) (by omega) _) | with_reducible exact hi.base.trans hi.since | with_reducible exact ho.base.trans ho.since | ((with_reducible refine Since.set (Since.set (Since.set (Since.set (Since.set (And.right (a := _ ∧ _) (by with_reducible assumption)) ?_ _) ?_ _) ?_ _) ?_ _) ?_ _) <;> (dsimp only; omega))))
      (first
        | (go_at_call 183; (with_reducible refine (HCi.out _ (by first | with_reducible assumption | exact And.right (a := _ ∧ _) (by with_reducible assumption))).mono ?_); rintro e wi ⟨Ai', ci', rfl, hi⟩; have zi := hi.base.size; have yi := hi.since.size; (first | ((with_reducible have g9 := hi.since.nw); obtain ⟨a0, a1, a2, a3, a4, e0, e1, e2, e3, e4⟩ := cells5 g9) | ((with_reducible have g9 := hi.since.nw'); obtain ⟨a0, a1, a2, a3, a4, e0, e1, e2, e3, e4⟩ := cells5 g9) | ((with_reducible have g9 := hi.since.kp g9); obtain ⟨a0, a1, a2, a3, a4, e0, e1, e2, e3, e4⟩ := cells5 g9) | skip))
        | (go_at_call 183; (with_reducible refine (HCo.out _ (by first | with_reducible assumption | exact And.right (a := _ ∧ _) (by with_reducible assumption))).mono ?_); rintro e wo ⟨Ao', co', rfl, ho⟩; have zo := ho.base.size; have yo := ho.since.size; (first | ((with_reducible have g9 := ho.since.nw); obtain ⟨a0, a1, a2, a3, a4, e0, e1, e2, e3, e4⟩ := cells5 g9) | ((with_reducible have g9 := ho.since.nw'); obtain ⟨a0, a1, a2, a3, a4, e0, e1, e2, e3, e4⟩ := cells5 g9) | ((with_reducible have g9 := ho.since.kp g9); obtain ⟨a0, a1, a2, a3, a4, e0, e1, e2, e3, e4⟩ := cells5 g9) | skip))
        | (go_at_call 119; (with_reducible refine (clone119 _ _).mono ?_); rintro e w3 ⟨rfl, rfl⟩))
    all_goals
      go_wp2_with fail
      go_meet
      first
        | exact ⟨_, _, _, _, _, rfl, sg_a hi ho ho.since⟩
        | exact ⟨_, _, _, _, _, rfl, sg_b hi ho ho.since (by omega) (by first | exact .inl (by first | omega | exact lt_new _ _ | exact Nat.lt_of_lt_of_le (lt_new _ _) (by omega) | exact Nat.lt_of_lt_of_le (lt_new' _ _) (by omega)) | exact .inr (by omega)) (by first | exact .inl (by first | omega | exact lt_new _ _ | exact Nat.lt_of_lt_of_le (lt_new _ _) (by omega) | exact Nat.lt_of_lt_of_le (lt_new' _ _) (by omega)) | exact .inr (by omega)) g9⟩
        | exact ⟨_, _, _, _, _, rfl, sg_b hi ho (((Since.refl _).al _).trans ho.since) (by omega) (by first | exact .inl (by first | omega | exact lt_new _ _ | exact Nat.lt_of_lt_of_le (lt_new _ _) (by omega) | exact Nat.lt_of_lt_of_le (lt_new' _ _) (by omega)) | exact .inr (by omega)) (by first | exact .inl (by first | omega | exact lt_new _ _ | exact Nat.lt_of_lt_of_le (lt_new _ _) (by omega) | exact Nat.lt_of_lt_of_le (lt_new' _ _) (by omega)) | exact .inr (by omega)) g9⟩
  case rest =>
    obtain ⟨N, Ai', Ao', ci', co', rfl, hsg⟩ := hcut
    have hfx := HX.out.all hsg.since
    obtain ⟨r0, r1, r2, r3, r4, -⟩ := cells5 (hfx.b0 rfl)
    obtain ⟨s0, s1, s2, s3, s4, -⟩ := cells5 hsg.row
    have HSG := Lib.hid hsg
    have HFX := Lib.hid hfx
    have hO := order_any gn An Ai Ao cn ci co l x wc (H.out.below hfx.below)
    clear hsg hfx HKS HCi HCo
    go_wp2_with fail
    refine wp_loop_rounds 1 ?_
    rw [rounds_succ]
    go_wp2_with fail
    refine hO.mono ?_
    rintro e wq ⟨Aq, cq, rfl, hq, hb⟩
    have HSG2 := Lib.hid (HSG.out.later hb)
    have HFX2 := Lib.hid (HFX.out.all hb)
    have HQ := Lib.hid hq
    clear hO hq hb HSG HFX r0 r1 r2 r3 r4 s0 s1 s2 s3 s4
    go_wp2_with fail
    go_loopw [59] (fun i wr => ∃ k : Nat, k ≤ l.length ∧ i = .int .i64 k ∧ Gb wq wr 33 [] gn N Ai' Ao' ci' co' l k) (fun i _ => l.length - (intOf i).toNat)
    case atStart => exact ⟨0, by omega, rfl, HSG2.out.gb⟩
    case round =>
      obtain ⟨k, hk, rfl, hs⟩ := hrel
      have hlo := hs.only.size
      obtain ⟨v, hrow, hoz⟩ := hs.row
      obtain ⟨Av, cv, hv⟩ := hoz.form
      rw [List.length_take, Nat.min_eq_left hk] at hv
      subst hv
      have hrow : wr.heap[N]? = some (.cells #[.string gn, .slice Av k cv, .slice Ai' 1 ci', .slice Ao' l.length co', .slice none 0 0] 33 (0, 0)) := hrow
      have hNg := HSG2.out.ge
      have hN2 := HX.out.size
      simp only [List.length_cons, List.length_nil] at hN2
      have hfx := HFX2.out.later (hs.only.below (B := w.heap.size + 2) (by omega) (by have := HFX2.out.size; simpa using this))
      by_cases hlt : k < l.length
      · have hF := H.out.below hfx.below
        obtain ⟨bq, oq, rfl, hbq, hcq⟩ := HQ.out
        have hbN : bq ≠ N := ne_of_int HSG2.out.row (by simp) (hcq 0 (by omega))
        have cq0 := (World.cell?_of_block (a := ⟨bq, oq + k, none⟩) (hs.only.block bq hbq hbN)).trans (hcq k hlt)
        obtain ⟨bn, offn, rfl, hbn, hcn⟩ := hF.nodes
        obtain ⟨o, ho⟩ : ∃ o, l[k]? = some o := ⟨_, List.getElem?_eq_getElem hlt⟩
        have hmem := List.mem_of_getElem? ho
        obtain ⟨nm, A', c', q0, q1, q2, q3, q4, q5⟩ := hcn k o ho
        obtain ⟨r0, r1, r2, r3, r4, -⟩ := cells5 (hfx.b0 rfl)
        obtain ⟨s0, s1, s2, s3, s4, f0, f1, -⟩ := cells5 hrow
        have HOZ := Lib.hid hoz
        have HROW := Lib.hid hrow
        have HS := Lib.hid hs
        have HC := Lib.hid (ownN185 o.op nm o.out A' o.m c' wr.drew (show Xs wr.drew A' o.m from q5) (hF.ok.ops o hmem).cases)
        have HO := Lib.hid ho
        clear hs hfx hF hcq hcn hoz hrow q5 ho hmem hbN
        have gN : N < wr.heap.size := by have := HSG2.out.lt; omega
        obtain ⟨i37, hi37⟩ : ∃ i, Tryz.prog.info? 37 = some i ∧ i.zero = some (.agg #[.string ⟨#[]⟩, .string ⟨#[]⟩, .slice none 0 0, .string ⟨#[]⟩, .slice none 0 0]) ∧ i.size = 5 ∧ i.bytes = 96 := by
          obtain ⟨i, h1, h2, h3, h4⟩ := info_parts Tryz.info37
          exact ⟨i, h1, h2, h3, h4⟩
        have HI := Lib.hid hi37
        clear hi37
        go_wp2_with fail
        first | (go_region_law (first
          | (go_simp; go_at_call 185; refine HC.out.mono ?_; rintro e w5 ⟨A5, c5, rfl, hx5, hb5⟩; have hsi : Since wr w5 := Below.trans (Since.refl wr).dr hb5; have g5 := hsi.kp HROW.out; obtain ⟨b5, o5, rfl, j0, j1, j2⟩ := hx5; have j0' : wr.heap.size ≤ b5 := j0; have p1 : w5.cell? ⟨N, 1, none⟩ = some (.slice Av k cv) := cell_of_row _ _ 1 _ 33 (0, 0) g5; have gl : N < w5.heap.size := Nat.lt_of_lt_of_le gN hsi.size; have p1a : (w5.alloc (.cells #[.string o.op, .string nm, .slice (some ⟨b5, o5, none⟩) o.m c5, .string o.out, .slice none 0 0] 37)).cell? ⟨N, 1, none⟩ = some (.slice Av k cv) := (World.cell?_alloc_lt w5 _ _ gl).trans p1; have HZ5 := Lib.hid (HOZ.out.below hsi); have z5 := hsi.size; have HSI := Lib.hid hsi; have G5 := Lib.hid g5; clear hb5 hsi g5; dsimp only)
          | (refine step_append_z w5 repNx o [.string o.op, .string nm, .slice (some ⟨b5, o5, none⟩) o.m c5, .string o.out, .slice none 0 0] rfl (.tmp 64) (.tmp 71) 30 rfl 37 i37 _ 96 Tryz.underlying30 HI.out.1 HI.out.2.1 HI.out.2.2.1 HI.out.2.2.2 rfl (by decide) (by decide) wq.heap.size (.slice Av k cv) (l.take k) rfl HZ5.out (fun j => j = b5) ⟨nm, b5, o5, c5, rfl, rfl, j1, j2⟩ (by rintro j rfl; refine ⟨by omega, j1, fun e => ?_⟩; have := (HOZ.out.row_lt _ e).2; omega) w5.heap.size rfl rfl (by rw [List.length_take]; omega) (by omega) ?_; intro v' w7 hz7 hg7; obtain ⟨A7, c7, e7⟩ := hz7.form; rw [List.length_append, List.length_take, Nat.min_eq_left hk] at e7; subst e7; have g7 := (hg7.block N gl (fun e => by have := (HOZ.out.row_lt _ e.symm).1; have := HSG2.out.lt; omega)).trans G5.out; obtain ⟨-, y1, -, -, -, -, yf, -⟩ := cells5 g7; have HG7 := Lib.hid (show Gb wq (w7.setCell ⟨N, 1, none⟩ (.slice A7 (k + 1) c7)) 33 [] gn N Ai' Ao' ci' co' l (k + 1) from Gb.come (v := .slice Av k cv) HS.out HO.out HSI.out hz7 hg7 (fun j e => (HOZ.out.row_lt j e).1) g7); clear hz7 hg7 g7))) | fail
        all_goals
          go_wp2_with fail
          go_roundw
          case rel => exact ⟨k + 1, by omega, by go_num, HG7.out⟩
          case measure => simp [intOf]; omega
      · obtain rfl : k = l.length := by omega
        rw [List.take_length] at hoz
        obtain ⟨s0, s1, s2, s3, s4, -⟩ := cells5 hrow
        have g1 := hfx.b1 rfl
        obtain ⟨-, -, -, -, -, f0, f1, f2, f3, f4⟩ := cells5 g1
        obtain ⟨y0, y1, y2, y3, y4, -⟩ := cells5 g1
        have HOZ := Lib.hid hoz
        have HS := Lib.hid hs
        have HB := Lib.hid hfx.below
        have n1 : N ≠ w.heap.size + 1 := by omega
        clear hs hfx hoz hrow hlt
        go_wp2_with fail
        refine put5 (F := fun W => bodyPost _ _ _ _ _ W) g1 ?_
        intro w9 g9 hk9 hb9 hz9
        refine bodyPost_ret (res_row_tmp rfl _ _ (w.heap.size + 1) 33 _ (0, 0) _ rfl g9 Tryz.underlying33 rfl (by kernel_rfl)) rfl ?_
        have hB9 : Below w.heap.size w w9 := HB.out.trans (hb9.mono (by omega))
        have z9 := HFX2.out.size
        simp only [List.length_cons, List.length_nil] at z9
        exact ⟨_, _, _, _, _, _, rfl, Gb.flat (H := N) (g := w.heap.size + 1) HOZ.out HS.out.only HSG2.out.ins HSG2.out.outs H.out.ok (H.out.gl.below hB9) H.out.lo H.out.hi (by omega) g1 (by simp) (fun k hk => hk9 k hk) (by omega), hB9⟩
end Go.Proofs.YtbilddeepnnogaaGreatDoor
