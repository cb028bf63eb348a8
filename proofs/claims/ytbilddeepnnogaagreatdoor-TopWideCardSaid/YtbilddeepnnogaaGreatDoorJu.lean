import Derived.Test.YtbilddeepnnogaaGreatDoorJsm
import Derived.Test.YtbilddeepnnogaaGreatDoorHhm
set_option linter.unusedVariables false
set_option linter.unusedSimpArgs false
/- The runner. -/
set_option linter.unusedVariables false
set_option maxRecDepth 100000
namespace Go.Proofs.YtbilddeepnnogaaGreatDoor
open Go.RowKit Go.Shelf Go.Maps

/-- What a machine made new is. -/
def NewIs (l : List Op1) (x sz : Nat) (ds : List Int) (w : World) (e : Ending) (w' : World) : Prop := ∃ L q, e = .returned (.tuple #[.pointer (some ⟨Lay.M L, 0, none⟩), .int .i64 0]) ∧ Mc w' L l x sz q ds (fun _ _ => false) (fun _ _ => false) ∧ x ≤ q * sz ∧ q ≤ 30 ∧ (∀ j, j < q → j * sz < x) ∧ w.heap.size ≤ L.base ∧ L.top ≤ w'.heap.size ∧ Since w w'
theorem PkAt.stay {w w' : World} {b : Nat} {A : Option Addr} {c : Nat} {ps : List Int} {a : Nat} (h : PkAt w b A c ps a) (hr : w'.heap[b]? = w.heap[b]?) (hA : ∀ (j : Nat) (d : Int) k off, ps[j]? = some d → A = some ⟨k, off, none⟩ → k < w.heap.size → w'.heap[k]? = w.heap[k]?) : PkAt w' b A c ps a :=
  ⟨hr.trans h.row, fun j d hj => by
    obtain ⟨b2, off, rfl, q⟩ := h.nums j d hj
    exact ⟨b2, off, rfl, (World.cell?_of_block (a := ⟨b2, off + j, none⟩) (hA j d b2 off hj rfl (World.block_lt_of_cell? w ⟨b2, off + j, none⟩ q))).trans q⟩, h.few, h.len, h.rng, h.apart⟩
theorem PkAt.since {w w' : World} {b : Nat} {A : Option Addr} {c : Nat} {ps : List Int} {a : Nat} (h : PkAt w b A c ps a) (hs : Since w w') : PkAt w' b A c ps a :=
  h.stay (hs.block _ (Array.getElem?_eq_some_iff.1 h.row).1) (fun _ _ k _ _ _ hk => hs.block k hk)
theorem Trn.of_lt {L : Lay} {n N : Nat} (h : L.M < N ∧ L.Ar < N ∧ ∀ i, i < n → L.wk i < N ∧ L.Dn i < N) {k : Nat} (hk : N ≤ k) : Trn L.M L.Ar n L.wk L.Dn k := ⟨by omega, by omega, fun i hi => by have := h.2.2 i hi; omega⟩
theorem Trn.of_base {L : Lay} {n : Nat} (h : Apart L.base L.top L.M L.Ar n L.wk L.Dn) {k : Nat} (hk : k < L.base) : Trn L.M L.Ar n L.wk L.Dn k := ⟨by have := h.lo; omega, by have := h.lo; omega, fun i hi => by have := h.lo.2.2.2 i hi; omega⟩
theorem Mc.lts {w : World} {L : Lay} {l : List Op1} {x sz q : Nat} {ds : List Int} {D B : Nat → Nat → Bool} (h : Mc w L l x sz q ds D B) : L.M < w.heap.size ∧ L.Ar < w.heap.size ∧ ∀ i, i < l.length → L.wk i < w.heap.size ∧ L.Dn i < w.heap.size := by
  obtain ⟨_, _, _, _, e1, -⟩ := h.row
  obtain ⟨_, e2, -⟩ := h.ar
  refine ⟨(Array.getElem?_eq_some_iff.1 e1).1, (Array.getElem?_eq_some_iff.1 e2).1, fun i hi => ?_⟩
  have hw := h.wa i _ (List.getElem?_eq_getElem hi)
  obtain ⟨_, _, _, _, _, _, _, e3, -⟩ := hw.row
  obtain ⟨_, e4, -⟩ := hw.dn
  exact ⟨(Array.getElem?_eq_some_iff.1 e3).1, (Array.getElem?_eq_some_iff.1 e4).1⟩
theorem undone_all (q : Nat) : undone (fun _ => false) q = q := by
  induction q with
  | zero => rfl
  | succ q ih => rw [undone, ih]; simp
theorem openN_all (q n : Nat) : openN (fun _ _ => false) q n = n * q := by
  induction n with
  | zero => simp [openN]
  | succ n ih => rw [openN, ih, undone_all, Nat.add_mul, Nat.one_mul]
theorem Mc.only {w w' : World} {L : Lay} {l : List Op1} {x sz q : Nat} {ds : List Int} {D B : Nat → Nat → Bool} (h : Mc w L l x sz q ds D B) {b : Nat} (ho : Only b w w') (hb : Trn L.M L.Ar l.length L.wk L.Dn b) (ht : L.top ≤ b) : Mc w' L l x sz q ds D B := by
  obtain ⟨e1, e2, e3⟩ := h.lts
  obtain ⟨cs, c1, c2⟩ := h.ar
  refine h.turn (fun k hk hz => ho.block k hk (by have := hz.2; omega)) ho.size (fun Ao co cR s hr h2 h3 => ⟨s, (ho.block _ e1 (fun e => hb.1 e.symm)).trans hr, h2, h3⟩) (fun a o hoa hw => ?_) ⟨cs, (ho.block _ e2 (fun e => hb.2.1 e.symm)).trans c1, c2⟩ (fun a o j hoa hj hB e d c q1 q2 q3 q4 => ?_)
  · have hal : a < l.length := (List.getElem?_eq_some_iff.1 hoa).1
    exact hw.stay (fun k hk hz => ho.block k hk (by have := hz.2; omega)) ho.size (ho.block _ (e3 a hal).1 (fun e => (hb.2.2 a hal).1 e.symm)) (ho.block _ (e3 a hal).2 (fun e => (hb.2.2 a hal).2 e.symm))
  · exact (World.cell?_of_block (a := ⟨L.Ar, _, none⟩) (ho.block _ e2 (fun e => hb.2.1 e.symm))).trans (h.bytes a o j hoa hj hB e d c q1 q2 q3 q4)
set_option maxHeartbeats 6400000 in
theorem run_of (An Ai Ao Or Vs Ap At Pk : Option Addr) (cn ci co c1 c2 cp ct ck sz : Nat) (l : List Op1) (x : Nat) (ds ps : List Int) (w : World) (h : PlnAt w An Ai Ao Or Vs Ap cp l x) (hps : Nums w Pk ps) (hpl : ps.length ≤ 140737488355328) (hpr : ∀ p ∈ ps, -9223372036854775808 ≤ p ∧ p ≤ 9223372036854775807)
    (hl : ds.length = x) (hsz : 1 ≤ sz) (hsz2 : sz ≤ 10) (hsm : ∀ d ∈ ds, Sm d) (hso : ∀ o ∈ l, ∀ d ∈ ds, Sm (opV o.op d)) (ht : Tns w At 1 x ds)
    (hN : ∀ W, Since w W → Calls Tryz.prog 33 #[.agg #[.string ⟨#[]⟩, .slice An l.length cn, .slice Ai 1 ci, .slice Ao l.length co, .slice none 0 0], .agg #[.int .i64 (l.length * up8 (4 * x) : Nat), .slice Ap l.length cp, .slice none 0 0], .slice At 1 ct, .int .i64 sz] W (NewIs l x sz ds W)) :
    Calls Tryz.prog 11 #[.agg #[.string ⟨#[]⟩, .slice An l.length cn, .slice Ai 1 ci, .slice Ao l.length co, .slice none 0 0, .slice Or l.length c1, .slice Vs (l.length + 1) c2, .int .i64 (l.length * up8 (4 * x) : Nat), .slice Ap l.length cp, .slice none 0 0], .slice At 1 ct, .int .i64 sz, .slice Pk ps.length ck] w fun e w' => ∃ v, e = .returned (.tuple #[v, .int .i64 0]) ∧ IsSlc repTn w' (fun k => w.heap.size ≤ k ∧ k < w'.heap.size) v (l.map (fun o => tnOf x (ds.map (opV o.op)))) ∧ Since w w' := by
  have hx1 : 1 ≤ x := by have := h.fl.lo; omega
  have hx2 : x ≤ 30 := by have := h.fl.hi; omega
  have hn5 := h.fl.ok.most
  have H := Lib.hid h
  have HN := Lib.hid hN
  have HP := Lib.hid hps
  have HPR := Lib.hid hpr
  have HSM := Lib.hid hsm
  have HSO := Lib.hid hso
  clear h hN hps hpr hsm hso ht
  obtain ⟨m, hm⟩ : ∃ m, m = l.length * up8 (4 * x) := ⟨_, rfl⟩
  have HMM := Lib.hid hm
  rw [← hm] at HN ⊢
  clear hm
  go_enter Tryz.func11, Tryz.ntmps11
  go_wp2_with fail
  refine newX (F := fun W => Calls _ _ _ W _) ?_
  intro w1 h1
  have HX1 := Lib.hid h1
  have hCk := Check_any ⟨#[]⟩ An Ai Ao Or Vs Ap cn ci co c1 c2 cp l x w1 (H.out.below h1.below)
  rw [← HMM.out] at hCk
  clear h1
  refine hCk.mono ?_
  rintro e w2 ⟨rfl, hs2⟩
  have hx2' := HX1.out.all hs2
  obtain ⟨r0, r1, r2, r3, r4, r5, r6, r7, r8, r9⟩ := cells10 (hx2'.b0 rfl)
  have hNw := HN.out w2 hx2'.below
  have HX2 := Lib.hid hx2'
  clear hx2' hs2 hCk
  go_wp2_with fail
  refine hNw.mono ?_
  rintro e w3 ⟨L, q, rfl, hm3, hxq, hq, hjq, hb3, ht3, hs3⟩
  have HM3 := Lib.hid hm3
  have HS3 := Lib.hid (HX2.out.below.trans (Below.mono hs3 HX2.out.below.size))
  have zb := HX2.out.below.size
  clear hm3 hs3 r0 r1 r2 r3 r4 r5 r6 r7 r8 r9 hNw
  go_wp2_with fail
  refine newX (F := fun W => Calls _ _ _ W _) ?_
  intro w4 h4
  have hlts := HM3.out.lts
  have hbs : L.base ≤ w3.heap.size := Nat.le_trans HM3.out.apart.lo.2.1 (Nat.le_of_lt hlts.1)
  have htr : Trn L.M L.Ar l.length L.wk L.Dn w3.heap.size := Trn.of_lt hlts (Nat.le_refl _)
  have hpk : PkAt w4 w3.heap.size Pk ck ps 0 := ⟨h4.b0 rfl, (HP.out.since HS3.out).since h4.below, by omega, hpl, HPR.out, fun j d a hj e => by
    obtain ⟨b, off, e2, q⟩ := HP.out j d hj
    rw [e] at e2
    cases e2
    have h1 := World.block_lt_of_cell? w _ q
    have h2 := HS3.out.size
    dsimp only at h1 ⊢
    omega⟩
  have hm4 := HM3.out.since h4.below
  refine (enabled_any L.M L.Wb L.cW L.wk L.S L.Dn l hm4.ok x sz q hx2 hq _ w4 hm4.st).mono ?_
  rintro e w5 ⟨v, rfl, hov, hs5⟩
  have HM5 := Lib.hid (hm4.since hs5)
  have HP5 := Lib.hid (hpk.since hs5)
  have HO5 := Lib.hid (hov.lower (B' := w3.heap.size + 1) (by have := h4.size; simpa using this))
  have HB5 := Lib.hid (show Below L.base w3 w5 from Below.trans (Below.mono h4.below hbs) (Below.mono hs5 (by have := h4.below.size; omega)))
  have htot : openN (fun _ _ => false) q l.length ≤ 150 := by rw [openN_all]; exact Nat.mul_le_mul (show l.length ≤ 5 by omega) hq
  clear hov hs5 hpk hm4 h4
  go_wp2_with fail
  go_loopw [13] (fun v wr => ∃ D a, Mc wr L l x sz q ds D D ∧ Below L.base w3 wr ∧ PkAt wr w3.heap.size Pk ck ps a ∧ a + openN D q l.length ≤ 150 ∧ OwnL (repRaw 3) 97 wr (w3.heap.size + 1) (fun _ => False) v (openL D x sz q l.length)) (fun v _ => (match v with | .slice _ n _ => n | _ => 0))
  case atStart => exact ⟨_, 0, HM5.out, HB5.out, HP5.out, by omega, HO5.out⟩
  case round =>
    obtain ⟨D, a, hmr, hbr, hpr, har, hown⟩ := hrel
    obtain ⟨A, c, hv⟩ := hown.form
    rw [openL_len] at hv
    have hmax : openN D q l.length ≤ 150 := by omega
    rcases Nat.eq_zero_or_pos (openN D q l.length) with h0 | h0
    · have hD := openN_zero.1 h0
      have hOut := mout_any hmr hl hx1 hx2 hsz hq hxq hD HSO.out
      rw [h0] at hv
      subst hv
      have HBR := Lib.hid hbr
      clear hmr hbr hpr har hown hmax h0
      go_wp2_with fail
      refine hOut.mono ?_
      rintro e w9 ⟨v9, rfl, hi9, hs9⟩
      have hbw : Below w.heap.size w3 wr := HBR.out.mono (by omega)
      have hfin : Since w w9 := Below.trans (Below.trans HS3.out hbw) (Below.mono hs9 (by have := HS3.out.size; have := hbw.size; omega))
      have hi := hi9.keep (Z' := fun k => w.heap.size ≤ k ∧ k < w9.heap.size) (fun _ _ => rfl) (fun k hk => ⟨by have := HS3.out.size; have := hbw.size; have := hk.1; omega, hk.2⟩)
      clear hi9 hs9 hOut
      go_wp2_with fail
      go_ret2
      exact ⟨_, rfl, hi, hfin⟩
    · obtain ⟨n, hn⟩ : ∃ n, n = openN D q l.length := ⟨_, rfl⟩
      rw [← hn] at hv har h0 hmax
      subst hv
      obtain ⟨bv, cv, ev, hv1, hv2, hv3⟩ := hown.raw (by decide) (by rw [openL_len]; omega)
      rw [openL_len, ← hn] at ev
      cases ev
      have hNx := next_any w3.heap.size Pk ck ps a n h0 (by omega) wr hpr (by omega)
      have hni : (0 : Int) < n := by omega
      have HN := Lib.hid hn
      have HMR := Lib.hid hmr
      have HBR := Lib.hid hbr
      have HV := Lib.hid hv3
      clear hn hmr hbr hpr hown hv3
      go_wp2_with fail
      refine hNx.mono ?_
      rintro e w6 ⟨r, hr, rfl, ho6, a', ha', hp6⟩
      obtain ⟨row, hrow⟩ : ∃ row, (openL D x sz q l.length)[r]? = some row := ⟨_, List.getElem?_eq_getElem (by rw [openL_len, ← HN.out]; exact hr)⟩
      obtain ⟨i, j, hi, hj, hD, hre⟩ := openL_mem (List.mem_of_getElem? hrow)
      subst hre
      obtain ⟨lo, hlo⟩ : ∃ lo, lo = j * sz := ⟨_, rfl⟩
      obtain ⟨hi_, hhi⟩ : ∃ hi, hi = min x (j * sz + sz) := ⟨_, rfl⟩
      have hst : stepR i x sz j = [.int .i64 i, .int .i64 lo, .int .i64 hi_] := by
        unfold stepR
        rw [← hlo, show min (x : Int) ((lo : Int) + (sz : Int)) = ((hi_ : Nat) : Int) by omega]
      rw [hst] at hrow
      have q0 := (World.cell?_of_block (a := ⟨bv, r * 3, none⟩) (ho6.block bv hv2 (by omega))).trans (HV.out r _ hrow 0 (by decide))
      have q1 := (World.cell?_of_block (a := ⟨bv, r * 3 + 1, none⟩) (ho6.block bv hv2 (by omega))).trans (HV.out r _ hrow 1 (by decide))
      have q2 := (World.cell?_of_block (a := ⟨bv, r * 3 + 2, none⟩) (ho6.block bv hv2 (by omega))).trans (HV.out r _ hrow 2 (by decide))
      simp only [List.getElem?_cons_zero, List.getElem?_cons_succ] at q0 q1 q2
      have hm6 := HMR.out.only ho6 htr ht3
      obtain ⟨o, ho⟩ : ∃ o, l[i]? = some o := ⟨_, List.getElem?_eq_getElem hi⟩
      have hDo := do_any hm6 i j lo hi_ o ho hj hD hl hx1 hx2 hsz hsz2 hq hlo (by rw [hlo]; exact hjq j hj) hhi HSM.out (HSO.out o (List.mem_of_getElem? ho))
      have hri : (r : Int) < n := by omega
      have HB6 := Lib.hid (show Below L.base w3 w6 from HBR.out.trans (ho6.below (by omega) (by have := HBR.out.size; omega)))
      have HP6 := Lib.hid hp6
      have hup := openN_up hi hj hD
      have HUP := Lib.hid hup
      clear hrow hst hlo hhi hm6 ho ho6 hp6 hNx hup
      go_wp2_with fail
      refine hDo.mono ?_
      rintro e w7 ⟨rfl, hm7, hb7, hs7⟩
      have hp7 : PkAt w7 w3.heap.size Pk ck ps a' := HP6.out.stay (hs7 _ (Array.getElem?_eq_some_iff.1 HP6.out.row).1 htr) (fun j d k off hj e hk => hs7 k hk (Trn.of_base HM3.out.apart (by
        obtain ⟨b, off', e2, q⟩ := HP.out j d hj
        rw [e] at e2
        cases e2
        have := World.block_lt_of_cell? w _ q
        dsimp only at this
        omega)))
      have z7 : w3.heap.size + 1 ≤ w7.heap.size := by
        have h1 := (Array.getElem?_eq_some_iff.1 HP6.out.row).1
        have h2 := hb7.size
        omega
      have hb37 : Below L.base w3 w7 := HB6.out.trans hb7
      have hE := enabled_any L.M L.Wb L.cW L.wk L.S L.Dn l hm7.ok x sz q hx2 hq _ w7 hm7.st
      have HM7 := Lib.hid hm7
      have HP7 := Lib.hid hp7
      have HB7 := Lib.hid hb37
      clear hm7 hb7 hs7 hp7 hb37 hDo q0 q1 q2
      go_wp2_with fail
      refine hE.mono ?_
      rintro e w8 ⟨v8, rfl, ho8, hs8⟩
      obtain ⟨A8, c8, e8⟩ := ho8.form
      have hup := HUP.out
      have hn := HN.out
      have hz8 : openN (up2 D i j) q l.length < n := by omega
      have hL8 : (openL (up2 D i j) x sz q l.length).length < n := by rw [openL_len]; exact hz8
      have HREL := Lib.hid (show ∃ D a, Mc w8 L l x sz q ds D D ∧ Below L.base w3 w8 ∧ PkAt w8 w3.heap.size Pk ck ps a ∧ a + openN D q l.length ≤ 150 ∧ OwnL (repRaw 3) 97 w8 (w3.heap.size + 1) (fun _ => False) v8 (openL D x sz q l.length) from ⟨up2 D i j, a', HM7.out.since hs8, HB7.out.trans (Below.mono hs8 (by have := HB7.out.size; omega)), HP7.out.since hs8, by omega, ho8.lower z7⟩)
      subst e8
      clear ho8 hs8 hE hup hn
      go_wp2_with fail
      exact ⟨HREL.out, hL8⟩
end Go.Proofs.YtbilddeepnnogaaGreatDoor
