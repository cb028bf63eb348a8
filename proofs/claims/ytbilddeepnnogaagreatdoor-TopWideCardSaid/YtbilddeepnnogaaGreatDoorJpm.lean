import Derived.Test.YtbilddeepnnogaaGreatDoorJmm
import Derived.Laws.CopyOwn
set_option linter.unusedVariables false
set_option linter.unusedSimpArgs false
/- Runs: a piece written into the arena. -/
section
set_option linter.unusedVariables false
set_option maxRecDepth 100000
namespace Go.Proofs.YtbilddeepnnogaaGreatDoor
open Go.RowKit Go.Shelf

theorem flat_len (l : List Int) : (l.flatMap bytesOf).length = l.length * 4 := by
  induction l with
  | nil => rfl
  | cons a l ih => rw [List.flatMap_cons, List.length_append, ih]; simp [bytesOf]; omega
theorem flat_get (l : List Int) : ∀ (m b : Nat) (d : Int), l[m]? = some d → b < 4 → (l.flatMap bytesOf)[m * 4 + b]? = some (byteOf d b) := by
  induction l with
  | nil => intro m b d h; simp at h
  | cons a l ih =>
    intro m b d h hb
    rw [List.flatMap_cons]
    have hl : (bytesOf a).length = 4 := rfl
    match m, h with
    | 0, h =>
      simp at h
      subst h
      rw [List.getElem?_append_left (by rw [hl]; omega)]
      rcases (show b = 0 ∨ b = 1 ∨ b = 2 ∨ b = 3 by omega) with rfl | rfl | rfl | rfl <;> rfl
    | m + 1, h =>
      rw [List.getElem?_append_right (by rw [hl]; omega), hl, show (m + 1) * 4 + b - 4 = m * 4 + b by omega]
      exact ih m b d (by simpa using h) hb
theorem seg_at {ds : List Int} {lo hi e : Nat} {d : Int} (h1 : lo ≤ e) (h2 : e < hi) (h : ds[e]? = some d) : (seg ds lo hi)[e - lo]? = some d := by
  unfold seg
  rw [List.getElem?_take, if_pos (by omega), List.getElem?_drop, show lo + (e - lo) = e by omega]
  exact h
/-- What a copy puts where. -/
theorem splice_in (cur bs : List Value) (o k : Nat) (h0 : o ≤ cur.length) (h1 : o ≤ k) (h2 : k < o + bs.length) : (cur.take o ++ bs ++ cur.drop (o + bs.length))[k]? = bs[k - o]? := by
  have hl : (cur.take o).length = o := by rw [List.length_take]; omega
  rw [List.append_assoc, List.getElem?_append_right (by omega), hl, List.getElem?_append_left (by omega)]
theorem splice_out (cur bs : List Value) (o k : Nat) (h0 : o + bs.length ≤ cur.length) (h : k < o ∨ o + bs.length ≤ k) : (cur.take o ++ bs ++ cur.drop (o + bs.length))[k]? = cur[k]? := by
  have hl : (cur.take o).length = o := by rw [List.length_take]; omega
  rw [List.append_assoc]
  rcases h with h | h
  · rw [List.getElem?_append_left (by omega), List.getElem?_take, if_pos h]
  · rw [List.getElem?_append_right (by omega), hl, List.getElem?_append_right (by omega), List.getElem?_drop]
    congr 1
    omega
theorem up8_geJ (n : Nat) : n ≤ up8 n := by unfold up8; omega
theorem Mc.write {w : World} {L : Lay} {l : List Op1} {x sz q : Nat} {ds : List Int} {D B : Nat → Nat → Bool} (h : Mc w L l x sz q ds D B) {i j lo hi : Nat} {o : Op1} (ho : l[i]? = some o) (hj : j < q) (hl : ds.length = x) (hlo : lo = j * sz) (hhi : hi = min x (j * sz + sz)) (hlt : lo < x) {cur : Array Value} (hg : w.heap[L.Ar]? = some (.cells cur 5 (0, 0))) :
    Mc (w.setRow L.Ar (cur.toList.take (i * up8 (4 * x) + lo * 4) ++ ((seg ds lo hi).map (opV o.op)).flatMap bytesOf ++ cur.toList.drop (i * up8 (4 * x) + lo * 4 + (((seg ds lo hi).map (opV o.op)).flatMap bytesOf).length)).toArray) L l x sz q ds D (up2 B i j) := by
  obtain ⟨cs, c1, c2⟩ := h.ar
  rw [hg] at c1
  obtain rfl : cur = cs := by simpa using c1
  have hbl : (((seg ds lo hi).map (opV o.op)).flatMap bytesOf).length = (hi - lo) * 4 := by rw [flat_len, List.length_map, seg_len (by omega)]
  have hil : i < l.length := (List.getElem?_eq_some_iff.1 ho).1
  have hu := up8_geJ (4 * x)
  have hiu : (i + 1) * up8 (4 * x) ≤ l.length * up8 (4 * x) := Nat.mul_le_mul_right _ hil
  have han := h.an
  rw [Nat.add_mul, Nat.one_mul] at hiu
  have hfit : i * up8 (4 * x) + lo * 4 + (((seg ds lo hi).map (opV o.op)).flatMap bytesOf).length ≤ cur.toList.length := by rw [hbl, Array.length_toList]; omega
  have hnew := setRow_heap w L.Ar cur (cur.toList.take (i * up8 (4 * x) + lo * 4) ++ ((seg ds lo hi).map (opV o.op)).flatMap bytesOf ++ cur.toList.drop (i * up8 (4 * x) + lo * 4 + (((seg ds lo hi).map (opV o.op)).flatMap bytesOf).length)).toArray 5 (0, 0) hg
  have far : ∀ k, k ≠ L.Ar → (w.setRow L.Ar (cur.toList.take (i * up8 (4 * x) + lo * 4) ++ ((seg ds lo hi).map (opV o.op)).flatMap bytesOf ++ cur.toList.drop (i * up8 (4 * x) + lo * 4 + (((seg ds lo hi).map (opV o.op)).flatMap bytesOf).length)).toArray).heap[k]? = w.heap[k]? := fun k hk => by
    simp only [World.setRow, Array.getElem?_modify]
    rw [if_neg (fun e => hk e.symm)]
  have ha := h.apart
  refine h.turn (fun k hk hz => far k hz.1.2.1) (by simp) (fun Ao co cR s hr h2 h3 => ⟨s, (far _ ha.ma).trans hr, h2, h3⟩) (fun a o' ho' hw => ?_) ⟨_, hnew, ?_⟩ ?_
  · have hal : a < l.length := (List.getElem?_eq_some_iff.1 ho').1
    exact hw.stay (fun k hk hz => far k hz.1.2.1) (by simp) (far _ (ha.wk1 a hal).2) (far _ (ha.dn1 a hal).2)
  · simp only [List.size_toArray, List.length_append, List.length_take, List.length_drop]
    rw [← c2]
    rw [hbl] at hfit ⊢
    rw [Array.length_toList] at hfit ⊢
    omega
  · intro a o' b ho' hb hB e d c e1 e2 e3 e4
    have hal : a < l.length := (List.getElem?_eq_some_iff.1 ho').1
    have hex : e < x := by have := (List.getElem?_eq_some_iff.1 e3).1; omega
    rw [cell_of_row _ _ _ _ 5 (0, 0) hnew, List.getElem?_toArray]
    by_cases hab : a = i ∧ b = j
    · obtain ⟨rfl, rfl⟩ := hab
      rw [ho] at ho'
      obtain rfl : o = o' := by simpa using ho'
      rw [splice_in _ _ _ _ (by omega) (by omega) (by rw [hbl]; omega), show a * up8 (4 * x) + (e * 4 + c) - (a * up8 (4 * x) + lo * 4) = (e - lo) * 4 + c by omega]
      exact flat_get _ _ _ _ (by rw [List.getElem?_map, seg_at (by omega) (by omega) e3]; rfl) e4
    · have hB' : B a b = true := by unfold up2 at hB; rwa [if_neg hab] at hB
      have hc := h.bytes a o' b ho' hb hB' e d c e1 e2 e3 e4
      rw [cell_of_row _ _ _ _ 5 (0, 0) hg] at hc
      rw [splice_out _ _ _ _ hfit ?_, Array.getElem?_toList]
      · exact hc
      · rw [hbl]
        rcases Nat.lt_trichotomy a i with h1 | h1 | h1
        · have := Nat.mul_le_mul_right (up8 (4 * x)) (show a + 1 ≤ i from h1)
          rw [Nat.add_mul, Nat.one_mul] at this
          omega
        · subst h1
          have hbj : b ≠ j := fun e => hab ⟨rfl, e⟩
          rcases Nat.lt_or_ge b j with h2 | h2
          · have := Nat.mul_le_mul_right sz (show b + 1 ≤ j from h2)
            rw [Nat.add_mul, Nat.one_mul] at this
            omega
          · have := Nat.mul_le_mul_right sz (show j + 1 ≤ b by omega)
            rw [Nat.add_mul, Nat.one_mul] at this
            omega
        · have := Nat.mul_le_mul_right (up8 (4 * x)) (show i + 1 ≤ a from h1)
          rw [Nat.add_mul, Nat.one_mul] at this
          omega
end Go.Proofs.YtbilddeepnnogaaGreatDoor
end
/- Runs: an input read. -/
section
set_option linter.unusedVariables false
set_option maxRecDepth 100000
namespace Go.Proofs.YtbilddeepnnogaaGreatDoor
open Go.RowKit Go.Shelf Go.Maps

set_option maxHeartbeats 3200000 in
theorem readx_any {w : World} {L : Lay} {l : List Op1} {x sz q : Nat} {ds : List Int} {D B : Nat → Nat → Bool} (h : Mc w L l x sz q ds D B) (Ad At : Option Addr) (cd ct : Nat) (f : ByteArray → Option Value) (hf : MapIs w L.bG f 1) (hfx : f ⟨#[120]⟩ = some (.agg #[.int .i64 6, .slice Ad 1 cd, .slice At x ct])) :
    Calls Tryz.prog 80 #[.pointer (some ⟨L.M, 0, none⟩), .string ⟨#[120]⟩] w fun e w' => e = .returned (.agg #[.int .i64 6, .slice Ad 1 cd, .slice At x ct]) ∧ Since w w' := by
  obtain ⟨Ao, co, cR, s, hr, -⟩ := h.row
  obtain ⟨f2, a1, a2, -⟩ := h.at_
  have nM := (Array.getElem?_eq_some_iff.1 hr).1
  have hx0 := fx1 w (.cells #[.int .i64 0, .slice none 0 0, .slice none 0 0] 44)
  have c1 : w.cell? ⟨L.M, 1, none⟩ = some (.map (some L.bG)) := cell_of_row _ _ 1 _ 162 (0, 0) hr
  have c2 : w.cell? ⟨L.M, 2, none⟩ = some (.map (some L.bA)) := cell_of_row _ _ 2 _ 162 (0, 0) hr
  have l2 := (a1.below hx0.below).look2 (s := ⟨#[120]⟩) Tryz.und142 (zero3 _) (by decide)
  rw [a2] at l2
  have l1 := (hf.below hx0.below).look (s := ⟨#[120]⟩) Tryz.und154 (zero44 _) (by decide)
  rw [hfx] at l1
  simp only [Option.getD_none, Option.isSome_none, Option.getD_some] at l1 l2
  go_enter Tryz.func80, Tryz.ntmps80
  clear hr h hf a1 hx0
  go_wp2_with fail
  refine bodyPost_ret (results_cell_row rfl _ _ w.heap.size 44 _ (0, 0) _ rfl (heap_alloc_new w _) Tryz.underlying44 rfl (by kernel_rfl)) rfl ?_
  exact ⟨rfl, below_new _ _⟩
end Go.Proofs.YtbilddeepnnogaaGreatDoor
end
/- Runs: one piece done. -/
section
set_option linter.unusedVariables false
set_option maxRecDepth 100000
namespace Go.Proofs.YtbilddeepnnogaaGreatDoor
open Go.RowKit Go.Shelf Go.Maps

theorem undone_pos {D : Nat → Bool} {j q : Nat} (hj : j < q) (hD : D j = false) : 1 ≤ undone D q := by have := undone_up hj hD; omega
theorem Mc.wkat {w : World} {L : Lay} {l : List Op1} {x sz q : Nat} {ds : List Int} {D B : Nat → Nat → Bool} (h : Mc w L l x sz q ds D B) {i : Nat} {o : Op1} (ho : l[i]? = some o) : WkAt w (L.wk i) (L.S i) (L.Dn i) i o x sz q (D i) := (h.wa i o ho).wk
set_option maxHeartbeats 6400000 in
theorem do_any {w : World} {L : Lay} {l : List Op1} {x sz q : Nat} {ds : List Int} {D : Nat → Nat → Bool} (h : Mc w L l x sz q ds D D) (i j lo hi : Nat) (o : Op1) (ho : l[i]? = some o) (hj : j < q) (hD : D i j = false) (hl : ds.length = x) (hx1 : 1 ≤ x) (hx2 : x ≤ 30) (hsz : 1 ≤ sz) (hsz2 : sz ≤ 10) (hq : q ≤ 30) (hlo : lo = j * sz) (hlt : lo < x) (hhi : hi = min x (j * sz + sz)) (hsm : ∀ d ∈ ds, Sm d) (hso : ∀ d ∈ ds, Sm (opV o.op d)) :
    Calls Tryz.prog 35 #[.pointer (some ⟨L.M, 0, none⟩), .agg #[.int .i64 i, .int .i64 lo, .int .i64 hi]] w fun e w' => e = .returned (.int .i64 0) ∧ Mc w' L l x sz q ds (up2 D i j) (up2 D i j) ∧ Below L.base w w' ∧ ∀ k, k < w.heap.size → Trn L.M L.Ar l.length L.wk L.Dn k → w'.heap[k]? = w.heap[k]? := by
  have hi' : i < l.length := (List.getElem?_eq_some_iff.1 ho).1
  have hn5 := h.ok.most
  have hop := h.ok.ops o (List.mem_of_getElem? ho)
  have hout := (h.ok.outs o (List.mem_of_getElem? ho)).1
  have hF : ∀ W, MaSt W L.M L.Wb L.cW L.wk L.S L.Dn l x sz q D → Calls Tryz.prog 79 #[.pointer (some ⟨L.M, 0, none⟩), .agg #[.int .i64 i, .int .i64 lo, .int .i64 hi]] W fun e w' => e = .returned (.tuple #[.pointer (some ⟨L.wk i, 0, none⟩), .int .i64 j]) ∧ Since W w' := fun W hW => by
    have := find_any L.M L.Wb L.cW L.wk L.S L.Dn l h.ok x sz q hsz hx2 hq D i j hi' hj W hW
    rw [← hlo, show min (x : Int) ((lo : Int) + (sz : Int)) = ((hi : Nat) : Int) by omega] at this
    exact this
  have H := Lib.hid h
  have HO := Lib.hid ho
  have HOP := Lib.hid hop
  have HSM := Lib.hid hsm
  have HSO := Lib.hid hso
  have hij : (i : Int) ≤ 5 := by omega
  have hjq : (j : Int) ≤ 30 := by omega
  have hji : (j : Int) < q := by omega
  have hjn : ¬ (j : Int) < 0 := by omega
  obtain ⟨f, Ad, cd, At, ct, hm, hfx, htn, hz1, hz2⟩ := h.given
  have HM := Lib.hid hm
  have HT := Lib.hid htn
  obtain ⟨i44, hi44⟩ : ∃ i, Tryz.prog.info? 44 = some i ∧ i.zero = some (.agg #[.int .i64 0, .slice none 0 0, .slice none 0 0]) ∧ i.size = 3 ∧ i.bytes = 56 := by
    obtain ⟨i, h1, h2, h3, h4⟩ := info_parts Tryz.info44
    exact ⟨i, h1, h2, h3, h4⟩
  have HI := Lib.hid hi44
  have HLO := Lib.hid hlo
  have HHI := Lib.hid hhi
  have hlx : lo < hi := by rw [hhi, ← hlo]; omega
  have hhx : hi ≤ x := by omega
  clear h ho hop hsm hso hm htn hi44 hlo hhi
  go_enter Tryz.func35, Tryz.ntmps35
  go_wp2_with fail
  refine newX (F := fun W => Calls _ _ _ W _) ?_
  intro w1 h1
  have HX1 := Lib.hid h1
  clear h1
  refine (hF w1 (H.out.since HX1.out.below).st).mono ?_
  rintro e w2 ⟨rfl, hs2⟩
  have HX2 := Lib.hid (HX1.out.all hs2)
  have hm2 := H.out.since HX2.out.below
  have hwk := hm2.wkat HO.out
  have hdn := hwk.done j hj
  rw [hD] at hdn
  obtain ⟨nm, A, cA, Ad2, cd2, cS, cD, hrow, hxs, -⟩ := hwk.row
  have c12 : w2.cell? ⟨L.wk i, 12, none⟩ = some (.slice (some ⟨L.Dn i, 0, none⟩) q cD) := cell_of_row _ _ 12 _ 170 (0, 0) hrow
  have hR := ready_any L.M w2 hwk
  have HM2 := Lib.hid hm2
  have HROW := Lib.hid hrow
  have HXS := Lib.hid hxs
  clear hF hs2 hm2 hwk hrow hxs
  go_wp2_with (go_at_call 78; refine hR.mono ?_; rintro e w3 ⟨rfl, hs3⟩; have row3 := hs3.kp HROW.out; have c2 : w3.cell? ⟨L.wk i, 2, none⟩ = some (.slice A o.m cA) := cell_of_row _ _ 2 _ 170 (0, 0) row3; have HS3 := Lib.hid hs3)
  have HX3 := Lib.hid (HX2.out.all HS3.out)
  have hm2' := HOP.out.cases
  have hmi : (o.m : Int) ≤ 2 := by omega
  clear hs3 hdn c12 hR
  go_loopw [7, 44] (fun v t wr => ∃ k : Nat, k ≤ o.m ∧ t = .int .i64 k ∧ Since w3 wr ∧ OwnL (repRaw 3) 44 wr w3.heap.size (fun _ => False) v (List.replicate k [.int .i64 6, .slice Ad 1 cd, .slice At x ct])) (fun _ t _ => o.m - (intOf t).toNat)
  case atStart => exact ⟨0, by omega, rfl, Since.refl _, ownL_nil⟩
  case round =>
    obtain ⟨k, hk, rfl, hs, hown⟩ := hrel
    by_cases hkl : k < o.m
    · have hswr : Since w wr := Below.trans HX3.out.below (Below.mono hs HX3.out.below.size)
      obtain ⟨b2, o2, e2, hb2, hc2⟩ := HXS.out.below (Below.trans HS3.out (Below.mono hs HS3.out.size))
      subst e2
      have c0 := hc2 k hkl
      have hRd := readx_any (H.out.since hswr) Ad At cd ct f (HM.out.below hswr) hfx
      obtain ⟨Av, cv, hv⟩ := hown.form
      rw [List.length_replicate] at hv
      subst hv
      have hki : (k : Int) < o.m := by omega
      have HS := Lib.hid hs
      have HOWN := Lib.hid hown
      clear hs hown hswr hc2
      go_wp2_with (first | (go_at_call 80; refine hRd.mono ?_; rintro e w6 ⟨rfl, hs6⟩; have z6 := HS.out.size; have z6' := hs6.size; have HO6 := Lib.hid (HOWN.out.keep (w' := w6) (fun i hi => hs6.block i (HOWN.out.lt i hi).2) (fun _ h => h.elim) (fun _ h => h)); have HS6 := Lib.hid hs6; clear hs6) | (at_builtin; refine wpList_append_f w6 (repRaw 3) (flatRaw 3) [.int .i64 6, .slice Ad 1 cd, .slice At x ct] [.int .i64 6, .slice Ad 1 cd, .slice At x ct] rfl (.tmp 48) (.tmp 52) 38 rfl 44 i44 _ 56 Tryz.underlying38 HI.out.1 HI.out.2.1 HI.out.2.2.1 HI.out.2.2.2 rfl (by decide) (by decide) w3.heap.size _ _ rfl HO6.out ⟨rfl, rfl, by simp [Value.oneCell']⟩ w6.heap.size rfl rfl (by rw [List.length_replicate]; omega) (by omega) ?_; intro v' w7 ho7 hb7))
      exact ⟨⟨k + 1, by omega, by go_num, Below.trans HS.out (Below.trans (Below.mono HS6.out (by omega)) hb7), by rw [List.replicate_succ']; exact ho7⟩, by simp [intOf]; omega⟩
    · obtain rfl : k = o.m := by omega
      have hswr : Since w wr := Below.trans HX3.out.below (Below.mono hs HX3.out.below.size)
      have hom : 0 < o.m := by omega
      obtain ⟨bi, cI, e5, hb1, hb2, hb3⟩ := hown.raw (by decide) (by simpa using hom)
      rw [List.length_replicate] at e5
      subst e5
      have hmr := H.out.since hswr
      have hap := hmr.apart
      obtain ⟨Ao, co, cR, s, hrM, -, -, hs0, hs1⟩ := hmr.row
      have cM5 : wr.cell? ⟨L.M, 5, none⟩ = some (.int .i64 s) := cell_of_row _ _ 5 _ 162 (0, 0) hrM
      have fM5 : wr.frozen? ⟨L.M, 5, none⟩ = false := frozen_row hrM 5
      have hmk := hmr.mark hi' hj hD cM5
      have rowr := (Since.trans HS3.out hs).kp HROW.out
      have c12 : wr.cell? ⟨L.wk i, 12, none⟩ = some (.slice (some ⟨L.Dn i, 0, none⟩) q cD) := cell_of_row _ _ 12 _ 170 (0, 0) rowr
      have c13 : wr.cell? ⟨L.wk i, 13, none⟩ = some (.int .i64 (undone (D i) q : Nat)) := cell_of_row _ _ 13 _ 170 (0, 0) rowr
      have f13 : wr.frozen? ⟨L.wk i, 13, none⟩ = false := frozen_row rowr 13
      obtain ⟨csd, hdr, hdz, hdj⟩ := (hmr.wa i o HO.out).dn
      have cdj : wr.cell? ⟨L.Dn i, j, none⟩ = some (.bool (D i j)) := (cell_of_row _ _ j _ 4 (0, 0) hdr).trans (hdj j hj)
      have fdj : wr.frozen? ⟨L.Dn i, j, none⟩ = false := frozen_row hdr j
      have n1 := hap.wd i i hi' hi'
      obtain ⟨n2, n3⟩ := hap.wk1 i hi'
      obtain ⟨n4, n5⟩ := hap.dn1 i hi'
      have hu1 := undone_pos hj hD
      have hu2 := undone_le (D i) q
      have hu3 : (1 : Int) ≤ (undone (D i) q : Nat) := by omega
      have hu4 : ((undone (D i) q : Nat) : Int) ≤ 30 := by omega
      have hsz1 : L.M < wr.heap.size := (Array.getElem?_eq_some_iff.1 hrM).1
      have hC := madd_any L.M s ((wr.setCell ⟨L.Dn i, j, none⟩ (.bool true)).setCell ⟨L.wk i, 13, none⟩ (.int .i64 ((undone (D i) q : Nat) - 1)))
        ((World.cell?_of_block (a := ⟨L.M, 5, none⟩) ((Below.heap_setCell _ _ _ _ (fun e => n2 e.symm)).trans (Below.heap_setCell _ _ _ _ (fun e => n4 e.symm)))).trans cM5)
        (by rw [World.frozen?_setCell, World.frozen?_setCell]; exact fM5) hs0 (by omega)
      have far : ∀ k, k ≠ L.M → k ≠ L.wk i → k ≠ L.Dn i → (((wr.setCell ⟨L.Dn i, j, none⟩ (.bool true)).setCell ⟨L.wk i, 13, none⟩ (.int .i64 ((undone (D i) q : Nat) - 1))).setCell ⟨L.M, 5, none⟩ (.int .i64 (s + 1))).heap[k]? = wr.heap[k]? := fun k h1 h2 h3 => (Below.heap_setCell _ _ _ _ h1).trans ((Below.heap_setCell _ _ _ _ h2).trans (Below.heap_setCell _ _ _ _ h3))
      have hbl : Below L.base wr (((wr.setCell ⟨L.Dn i, j, none⟩ (.bool true)).setCell ⟨L.wk i, 13, none⟩ (.int .i64 ((undone (D i) q : Nat) - 1))).setCell ⟨L.M, 5, none⟩ (.int .i64 (s + 1))) := (((Below.refl _ _).setCell (hap.lo.2.2.2 i hi').2 _).setCell (hap.lo.2.2.2 i hi').1 _).setCell hap.lo.2.1 _
      have hzz : (((wr.setCell ⟨L.Dn i, j, none⟩ (.bool true)).setCell ⟨L.wk i, 13, none⟩ (.int .i64 ((undone (D i) q : Nat) - 1))).setCell ⟨L.M, 5, none⟩ (.int .i64 (s + 1))).heap.size = wr.heap.size := by simp [World.setCell]
      have HMK := Lib.hid hmk
      have HFAR := Lib.hid (And.intro far (And.intro hbl hzz))
      have HRAW := Lib.hid hb3
      have HSWR := Lib.hid hswr
      have HRT := Lib.hid (Since.kp hs (HX3.out.b0 rfl))
      have HAP := Lib.hid hap
      clear hs hown hmk hap hswr hb3 far hbl hmr rowr hdr hdj hkl hrM hs1 hu1 hu2 hzz
      go_wp2_with (go_at_call 81; refine hC.mono ?_; rintro e w5 ⟨rfl, rfl⟩)
      clear hC cM5 fM5 c12 c13 f13 cdj fdj
      generalize ((wr.setCell ⟨L.Dn i, j, none⟩ (.bool true)).setCell ⟨L.wk i, 13, none⟩ (.int .i64 ((undone (D i) q : Nat) - 1))).setCell ⟨L.M, 5, none⟩ (.int .i64 (s + 1)) = w5 at HMK HFAR ⊢
      obtain ⟨far, hbl, hzz⟩ := HFAR.out
      have hw3 := HX3.out.below.size
      have hsw := HSWR.out.size
      have hlw : ∀ k, w.heap.size ≤ k → k ≠ L.M ∧ k ≠ L.wk i ∧ k ≠ L.Dn i := by
        have hmw := H.out
        obtain ⟨_, _, _, _, e1, -⟩ := hmw.row
        obtain ⟨_, _, _, _, _, _, _, e2, -⟩ := (hmw.wkat HO.out).row
        obtain ⟨_, e3, -⟩ := (hmw.wa i o HO.out).dn
        have e1 := (Array.getElem?_eq_some_iff.1 e1).1
        have e2 := (Array.getElem?_eq_some_iff.1 e2).1
        have e3 := (Array.getElem?_eq_some_iff.1 e3).1
        exact fun k hk => ⟨by omega, by omega, by omega⟩
      have hst : ∀ k, k < w.heap.size → Trn L.M L.Ar l.length L.wk L.Dn k → w5.heap[k]? = w.heap[k]? := fun k hk hz => (far k hz.1 (hz.2.2 i hi').1 (hz.2.2 i hi').2).trans (HSWR.out.block k hk)
      have hsz5 : w.heap.size ≤ w5.heap.size := by omega
      have hT5 : TnOk w5 Ad At x ds := ⟨HT.out.len, HT.out.lo, HT.out.hi, HT.out.dim.stay hz1 (fun k hk hz => hst k hk hz.1) hsz5, HT.out.nums.stay hz2 (fun k hk hz => hst k hk hz.1), HT.out.sm⟩
      have hb5 : ∀ k, w.heap.size ≤ k → w5.heap[k]? = wr.heap[k]? := fun k hk => by
        obtain ⟨e1, e2, e3⟩ := hlw k hk
        exact far k e1 e2 e3
      have hTns : Tns w5 (some ⟨bi, 0, none⟩) o.m x ds := ⟨bi, 0, rfl, by omega, fun t ht => ⟨Ad, cd, At, ct, by
          have := HRAW.out t _ (by rw [List.getElem?_replicate, if_pos ht]) 0 (by decide)
          exact (World.cell?_of_block (a := ⟨bi, 0 + t * 3, none⟩) (hb5 bi (by omega))).trans (by simpa using this), by
          have := HRAW.out t _ (by rw [List.getElem?_replicate, if_pos ht]) 1 (by decide)
          exact (World.cell?_of_block (a := ⟨bi, 0 + t * 3 + 1, none⟩) (hb5 bi (by omega))).trans (by simpa using this), by
          have := HRAW.out t _ (by rw [List.getElem?_replicate, if_pos ht]) 2 (by decide)
          exact (World.cell?_of_block (a := ⟨bi, 0 + t * 3 + 2, none⟩) (hb5 bi (by omega))).trans (by simpa using this), hT5⟩⟩
      obtain ⟨nm5, A5, cA5, Ad5, cd5, cS5, cD5, hr5, hx5, -⟩ := (HMK.out.wkat HO.out).row
      have r0 : w5.cell? ⟨L.wk i, 0, none⟩ = some (.string o.op) := cell_of_row _ _ 0 _ 170 (0, 0) hr5
      have r1 : w5.cell? ⟨L.wk i, 1, none⟩ = some (.string nm5) := cell_of_row _ _ 1 _ 170 (0, 0) hr5
      have r2 : w5.cell? ⟨L.wk i, 2, none⟩ = some (.slice A5 o.m cA5) := cell_of_row _ _ 2 _ 170 (0, 0) hr5
      have r3 : w5.cell? ⟨L.wk i, 3, none⟩ = some (.string o.out) := cell_of_row _ _ 3 _ 170 (0, 0) hr5
      have r4 : w5.cell? ⟨L.wk i, 4, none⟩ = some (.slice none 0 0) := cell_of_row _ _ 4 _ 170 (0, 0) hr5
      obtain ⟨s0, s1, s2, -⟩ := cells3 ((hb5 w.heap.size (Nat.le_refl _)).trans HRT.out)
      have HPART := Lib.hid (part_any o.op nm5 o.out A5 (some ⟨bi, 0, none⟩) o.m cA5 cI x lo hi ds w5.drew (HMK.out.gl.below (Since.refl w5).dr) (hx5.below (Since.refl w5).dr) (hTns.since (Since.refl w5).dr) HOP.out hout hl hx2 HSM.out hlx hhx)
      have HB5 := Lib.hid (And.intro hb5 (And.intro hbl hr5))
      have HTL := Lib.hid hlw
      have HST := Lib.hid hst
      clear hr5 hx5 hTns hT5 hst hb5 far hbl HFAR hlw
      have zwk : L.wk i < w5.heap.size := World.block_lt_of_cell? w5 ⟨L.wk i, 0, none⟩ r0
      have HKS : ∀ W, Since w5 W → W.cell? ⟨L.wk i, 0, none⟩ = some (.string o.op) ∧ W.cell? ⟨L.wk i, 1, none⟩ = some (.string nm5) ∧ W.cell? ⟨L.wk i, 2, none⟩ = some (.slice A5 o.m cA5) ∧ W.cell? ⟨L.wk i, 3, none⟩ = some (.string o.out) ∧ W.cell? ⟨L.wk i, 4, none⟩ = some (.slice none 0 0) ∧ W.cell? ⟨w.heap.size, 1, none⟩ = some (.int .i64 lo) ∧ W.cell? ⟨w.heap.size, 2, none⟩ = some (.int .i64 hi) := fun W hW => ⟨(hW.cell (p := ⟨L.wk i, 0, none⟩) zwk).trans r0, (hW.cell (p := ⟨L.wk i, 1, none⟩) zwk).trans r1, (hW.cell (p := ⟨L.wk i, 2, none⟩) zwk).trans r2, (hW.cell (p := ⟨L.wk i, 3, none⟩) zwk).trans r3, (hW.cell (p := ⟨L.wk i, 4, none⟩) zwk).trans r4, (hW.cell (p := ⟨w.heap.size, 1, none⟩) (World.block_lt_of_cell? w5 ⟨w.heap.size, 1, none⟩ s1)).trans s1, (hW.cell (p := ⟨w.heap.size, 2, none⟩) (World.block_lt_of_cell? w5 ⟨w.heap.size, 2, none⟩ s2)).trans s2⟩
      have HK := Lib.hid HKS
      clear HKS r0 r1 r2 r3 r4 s0 s1 s2
      go_region_held3 (fun W => W.cell? ⟨L.wk i, 0, none⟩ = some (.string o.op) ∧ W.cell? ⟨L.wk i, 1, none⟩ = some (.string nm5) ∧ W.cell? ⟨L.wk i, 2, none⟩ = some (.slice A5 o.m cA5) ∧ W.cell? ⟨L.wk i, 3, none⟩ = some (.string o.out) ∧ W.cell? ⟨L.wk i, 4, none⟩ = some (.slice none 0 0) ∧ W.cell? ⟨w.heap.size, 1, none⟩ = some (.int .i64 lo) ∧ W.cell? ⟨w.heap.size, 2, none⟩ = some (.int .i64 hi)) (first | with_reducible exact HK.out _ (Since.refl w5).dr | with_reducible exact HK.out _ hs56) ((go_at_call 82; (with_reducible refine HPART.out.mono ?_); rintro e w6 ⟨g6, c6, rfl, hn6, hs6⟩; have hs56 : Since w5 w6 := Since.trans (Since.refl w5).dr hs6))
      have hm6 := HMK.out.since hs56
      have row6 := hs56.kp HB5.out.2.2
      have k6 : w6.cell? ⟨L.wk i, 6, none⟩ = some (.int .i64 6) := cell_of_row _ _ 6 _ 170 (0, 0) row6
      have hP := put_any (some ⟨g6, 0, none⟩) c6 ((seg ds lo hi).map (opV o.op)) w6 (fun d hd => by
        obtain ⟨y, hy, rfl⟩ := List.mem_map.1 hd
        exact HSO.out y (seg_mem hy)) (by rw [List.length_map, seg_len (by omega)]; omega) hn6
      rw [List.length_map, seg_len (by omega)] at hP
      have HM6 := Lib.hid hm6
      have HS56 := Lib.hid hs56
      have HROW6 := Lib.hid row6
      clear hs6 hs56 hn6 hm6 row6 HPART
      go_wp2_with fail
      refine hP.mono ?_
      rintro e w7 ⟨g7, rfl, hown7, hs7⟩
      have hm7 := HM6.out.since hs7
      obtain ⟨-, -, -, -, -, s1, s2⟩ := HK.out w7 (HS56.out.trans hs7)
      have hBy := mbytes_any lo hi (by omega) (by omega) (by omega) hx2 w7 (hm7.wkat HO.out)
      have HM7 := Lib.hid hm7
      have HOWN7 := Lib.hid hown7
      have HS7 := Lib.hid hs7
      clear hm7 hown7 hs7 hP k6
      go_wp2_with fail
      refine hBy.mono ?_
      rintro e w8 ⟨sn, rfl, hs8⟩
      have HM8 := Lib.hid (HM7.out.since hs8)
      have HS8 := Lib.hid hs8
      clear hs8 hBy s1 s2
      obtain ⟨a, hae⟩ : ∃ a, a = i * up8 (4 * x) + lo * 4 := ⟨_, rfl⟩
      rw [← hae]
      have HAE := Lib.hid hae
      have han := HM8.out.an
      have hu := up8_ge (4 * x)
      have hiu : (i + 1) * up8 (4 * x) ≤ l.length * up8 (4 * x) := Nat.mul_le_mul_right _ hi'
      rw [Nat.add_mul, Nat.one_mul] at hiu
      have hfit : a + (hi - lo) * 4 ≤ L.nA := by rw [hae]; omega
      obtain ⟨b4, hb4⟩ : ∃ b, b = (hi - lo) * 4 := ⟨_, rfl⟩
      have HB4 := Lib.hid hb4
      clear hae hu hiu
      go_wp2_with fail
      refine newX (F := fun W => Code.wp _ _ _ _ W) ?_
      intro w9 h9
      obtain ⟨t0, t1, t2, -⟩ := cells3 (h9.b0 rfl)
      have hm9 := HM8.out.since h9.below
      obtain ⟨Ao9, co9, cR9, s9, hr9, -, hc9, -⟩ := hm9.row
      have m4 : w9.cell? ⟨L.M, 4, none⟩ = some (.slice (some ⟨L.Ar, 0, none⟩) L.nA cR9) := cell_of_row _ _ 4 _ 162 (0, 0) hr9
      have q1 : (a : Int) + ((hi - lo) * 4 : Nat) ≤ cR9 := by omega
      have q2 : ((hi - lo : Nat) : Int) ≤ 30 := by omega
      have q3 : (a : Int) ≤ 1000 := by omega
      have q4 : a + (hi - lo) * 4 ≤ cR9 := by omega
      have HM9 := Lib.hid hm9
      have HX9 := Lib.hid h9
      clear hm9 h9 hr9
      obtain ⟨b, hbe⟩ : ∃ b, b = a + (hi - lo) * 4 := ⟨_, rfl⟩
      have hwr : IntKind.i64.wrap ((a : Int) + ((hi - lo : Nat) : Int) * 4) = (b : Int) := by rw [IntKind.wrap_i64]; omega
      have hmax : max (b : Int) 0 = b := by omega
      have hbc : (b : Int) ≤ cR9 := by omega
      have hab : a ≤ b := by omega
      have hba : ¬ b = a := by omega
      have HBE := Lib.hid hbe
      clear hbe q1 q2 q3 q4
      go_still_tail 18, (by kernel_rfl)
      change wpList _ _ _ _ _ w9.drew
      obtain ⟨cur, hcur, hcz⟩ := HM9.out.ar
      have hs79 : Since w7 w9.drew := Since.dr (Below.trans HS8.out (Below.mono HX9.out.below HS8.out.size))
      have hbl : (((seg ds lo hi).map (opV o.op)).flatMap bytesOf).length = (hi - lo) * 4 := by rw [flat_len, List.length_map, seg_len (by omega)]
      have hbe := HBE.out
      refine wpList_copy_own rfl (.tmp 123) (.tmp 124) 114 114 rfl 5 Tryz.underlying114 (by kernel_rfl) L.Ar a _ _ ⟨g7, 0, none⟩ ((hi - lo) * 4) ((hi - lo) * 4) rfl rfl cur 5 (show w9.drew.heap[L.Ar]? = _ from hcur) (((seg ds lo hi).map (opV o.op)).flatMap bytesOf) (by rw [hbl]; exact (Nat.min_eq_left (by omega)).symm) (fun k v hk => ?_) (by rw [hbl, hcz]; omega) (fun v hv => ?_) ?_
      · have hc := (HOWN7.out.cells (g := g7) rfl) k v hk
        exact (hs79.cell (World.block_lt_of_cell? w7 _ hc)).trans hc
      · obtain ⟨y, -, hy⟩ := List.mem_flatMap.1 hv
        simp only [bytesOf, byteOf, List.mem_cons, List.not_mem_nil, or_false] at hy
        rcases hy with rfl | rfl | rfl | rfl <;> simp [Value.oneCell']
      · have hW := (HM9.out.since (Since.refl w9).dr).write HO.out hj hl HLO.out HHI.out hlt (cur := cur) (show w9.drew.heap[L.Ar]? = _ from hcur)
        have hap := HAP.out
        have hbase : L.base ≤ w.heap.size := Nat.le_of_lt (Nat.lt_of_le_of_lt hap.lo.2.1 (by obtain ⟨_, _, _, _, e1, -⟩ := H.out.row; exact (Array.getElem?_eq_some_iff.1 e1).1))
        have hB : Below L.base w (w9.drew.setRow L.Ar (cur.toList.take a ++ (((seg ds lo hi).map (opV o.op)).flatMap bytesOf ++ cur.toList.drop (a + (((seg ds lo hi).map (opV o.op)).flatMap bytesOf).length))).toArray) := below_setRow (Below.drew (Below.trans (Below.mono HSWR.out hbase) (Below.trans HB5.out.2.1 (Below.mono (Below.trans HS56.out (Below.mono (Below.trans HS7.out (Below.mono (Below.trans HS8.out (Below.mono HX9.out.below HS8.out.size)) HS7.out.size)) HS56.out.size)) (by omega))))) hap.lo.2.2.1 _
        have hS : ∀ k, k < w.heap.size → Trn L.M L.Ar l.length L.wk L.Dn k → (w9.drew.setRow L.Ar (cur.toList.take a ++ (((seg ds lo hi).map (opV o.op)).flatMap bytesOf ++ cur.toList.drop (a + (((seg ds lo hi).map (opV o.op)).flatMap bytesOf).length))).toArray).heap[k]? = w.heap[k]? := fun k hk hz => (setRow_other _ _ _ _ hz.2.1).trans (((Since.dr (Below.trans HS56.out (Below.mono (Below.trans HS7.out (Below.mono (Below.trans HS8.out (Below.mono HX9.out.below HS8.out.size)) HS7.out.size)) HS56.out.size))).block k (by omega)).trans (HST.out k hk hz))
        rw [← HAE.out, List.append_assoc] at hW
        generalize w9.drew.setRow L.Ar (cur.toList.take a ++ (((seg ds lo hi).map (opV o.op)).flatMap bytesOf ++ cur.toList.drop (a + (((seg ds lo hi).map (opV o.op)).flatMap bytesOf).length))).toArray = wf at hW hB hS ⊢
        have HW := Lib.hid (And.intro hW (And.intro hB hS))
        clear hW hB hS
        go_wp2_with fail
        go_ret
        exact ⟨rfl, HW.out.1, HW.out.2.1, HW.out.2.2⟩
end Go.Proofs.YtbilddeepnnogaaGreatDoor
end
