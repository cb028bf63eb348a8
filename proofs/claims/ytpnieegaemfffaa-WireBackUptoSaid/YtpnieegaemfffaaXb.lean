/- The walks: the program's Write. -/
import Derived.Test.YtpnieegaemfffaaXa
namespace Go.Proofs.Ytpnieegaemfffaa
open Go.RowKit

theorem or_head (num kind : Int) (h0 : 0 ≤ kind) (h1 : kind ≤ 5) (n1 : 1 ≤ num) (n2 : num ≤ 536870911) : bits .or .u64 (num * 8) kind = num * 8 + kind := by
  have e := bits_join_low .u64 64 (by decide) wraps_u64 3 kind (num * 8) h0 (by omega) (by omega) (by omega) (by omega) (by omega)
  have c : bits .or .u64 (num * 8) kind = bits .or .u64 kind (num * 8) := by
    unfold bits; simp [Nat.or_comm]
  rw [c, e]; omega

set_option maxRecDepth 100000 in
set_option maxHeartbeats 1600000 in
theorem pwrite_any (l : List Fd) (A : Option Addr) (n c : Nat) (w : World) (B : Nat) (hl : Flds w B A n l) (hB : B ≤ w.heap.size) (hok : ∀ f ∈ l, FdOk f) (hsz : (textB l).size ≤ 4611686018427387904) (r : ByteArray) (err : Int) (h : WrIs l r err) :
    Calls Try.prog 19 #[.slice A n c] w (Txt w r err) := by
  obtain ⟨i0, hi, hz0, hz1, hz2⟩ := info_parts Try.info5
  have H := Lib.hid h
  have Hl := Lib.hid hl.len
  have hm : n ≤ 9223372036854775807 := hl.small
  have Hcv := Lib.hid (fun wx v s B (h : OwnS wx B v s) => run_text (P := Try.prog) wx 50 9 Try.underlying50 Try.underlying5 Try.underlying9 B v s h)
  clear h
  go_enter Try.func19, Try.ntmps19
  go_wp2_with fail
  go_loopw [4, 5, 12] (fun v z i wr => ∃ k : Nat, k ≤ n ∧ i = .int .i64 k ∧ AllGood (l.take k) ∧ Below w.heap.size w wr ∧ z = .int .i64 ((textB (l.take k)).size : Int) ∧ ∃ s, OwnS wr w.heap.size v s ∧ s.size ≤ 16777216 ∧ ((textB (l.take k)).size ≤ 16777216 → s = textB (l.take k))) (fun _ _ i _ => n - (intOf i).toNat)
  case atStart => exact ⟨0, by omega, rfl, fun f h => by simp at h, Below.refl _ _, rfl, _, ownS_nil _ _, by decide, fun _ => rfl⟩
  case round =>
    obtain ⟨k, hk, rfl, hg, hb, rfl, s, ho, hs, hcase⟩ := hrel
    have z0 := hb.size
    have Hb := Lib.hid hb
    have Hg := Lib.hid hg
    have Ho := Lib.hid ho
    have Hs := Lib.hid hcase
    clear hb hg hcase
    have e0 := textB_mono l k
    by_cases hlt : k < n
    · obtain ⟨b1, o1, rfl, hb1, hc1⟩ := hl.at_ (by omega)
      obtain ⟨f, hf⟩ : ∃ f, l[k]? = some f := ⟨_, List.getElem?_eq_getElem (by rw [Hl.out]; exact hlt)⟩
      obtain ⟨x0, x1, x2, x3⟩ := hc1 k f hf
      rw [Nat.mul_comm 4 k] at x0 x1 x2 x3
      have y0 := (Hb.out.cell (p := ⟨b1, o1 + k * 4, none⟩) (by dsimp only; omega)).trans x0
      have y1 := (Hb.out.cell (p := ⟨b1, o1 + k * 4 + 1, none⟩) (by dsimp only; omega)).trans x1
      have y2 := (Hb.out.cell (p := ⟨b1, o1 + k * 4 + 2, none⟩) (by dsimp only; omega)).trans x2
      have y3 := (Hb.out.cell (p := ⟨b1, o1 + k * 4 + 3, none⟩) (by dsimp only; omega)).trans x3
      have Hf := Lib.hid hf
      have fm : f ∈ l := List.mem_of_getElem? hf
      have Hfm := Lib.hid fm
      have e1 : (textB (l.take (k + 1))).size = (textB (l.take k)).size + (formB f).size := by rw [textB_take l k f Hf.out, ByteArray.size_append]
      have e2 := textB_mono l (k + 1)
      obtain ⟨A4, c4, rfl⟩ := Ho.out.form
      have HT := Lib.hid (fun w => content_any f w (hok f fm))
      clear x0 x1 x2 x3 hf fm hc1
      obtain ⟨num, kind, u, b⟩ := f
      dsimp only at y0 y1 y2 y3
      go_wp2_with fail
      refine (HT.out _).mono ?_
      rintro e w1 ⟨c', ok, rfl, hyes, hno, hb1⟩
      have p0 : w1.cell? ⟨wr.heap.size, 0, none⟩ = some (.int .i64 num) := (hb1.cell (by simp)).trans (cell_of_row _ _ 0 _ 35 (0, 0) (heap_alloc_new wr _))
      have p1 : w1.cell? ⟨wr.heap.size, 1, none⟩ = some (.int .i64 kind) := (hb1.cell (by simp)).trans (cell_of_row _ _ 1 _ 35 (0, 0) (heap_alloc_new wr _))
      have Hb1 := Lib.hid ((Hb.out.alloc z0 (.cells #[.int .i64 num, .int .i64 kind, .int .u64 u, .string b] 35)).trans (hb1.mono (by simp; omega)))
      have Ho1 := Lib.hid ((Ho.out.below ((Below.refl _ _).alloc (Nat.le_refl _) (.cells #[.int .i64 num, .int .i64 kind, .int .u64 u, .string b] 35))).below hb1)
      have z1 := Hb1.out.size
      clear hb1 y0 y1 y2 y3 HT
      cases ok with
      | false =>
        have hgf := hno rfl
        have He : Hid (r = ⟨#[]⟩ ∧ err = 1) := Lib.hid (by
          rcases H.out with ⟨_, h⟩ | ⟨h, _⟩ | ⟨h, _⟩
          · exact h
          · exact absurd (h _ Hfm.out) hgf
          · exact absurd (h _ Hfm.out) hgf)
        clear hgf hno hyes
        go_wp2
        go_ret2
        exact txt_ret Hb1.out He.out.1.symm He.out.2.symm
      | true =>
        obtain ⟨hgf, rfl⟩ := hyes rfl
        have n1 : 1 ≤ num := hgf.1
        have n2 : num ≤ 536870911 := hgf.2.1
        have q1 : 0 ≤ kind := (good_kind hgf).1
        have q2 : kind ≤ 5 := (good_kind hgf).2
        have Hgf := Lib.hid hgf
        have T : ∀ w, Calls Try.prog 11 #[.int .u64 (bits .or .u64 (num * 8) kind)] w fun e w' => e = .returned (.string (strOfNums (venc (num * 8 + kind)))) ∧ Below w.heap.size w w' := fun w => by
          rw [or_head num kind q1 q2 n1 n2]
          exact varint_w (num * 8 + kind) w (by omega) (by unfold B64; omega)
        have HV := Lib.hid T
        have hfe : formB ⟨num, kind, u, b⟩ = strOfNums (venc (num * 8 + kind)) ++ contB ⟨num, kind, u, b⟩ := rfl
        have hfs : (formB ⟨num, kind, u, b⟩).size = (strOfNums (venc (num * 8 + kind))).size + (contB ⟨num, kind, u, b⟩).size := by rw [hfe, ByteArray.size_append]
        have hq : ¬ 9223372036854775807 < (strOfNums (venc (num * 8 + kind))).size + (contB ⟨num, kind, u, b⟩).size := by omega
        have Hfe := Lib.hid hfe
        clear hgf hno hyes T hfe
        go_wp2_with fail
        refine (HV.out _).mono ?_
        rintro e w2 ⟨rfl, hb2⟩
        have Hb2 := Lib.hid (Hb1.out.trans (hb2.mono z1))
        have Ho2 := Lib.hid (Ho1.out.below hb2)
        have z2 := Hb2.out.size
        clear hb2 p0 p1
        by_cases hbig : 16777216 < (textB (l.take (k + 1))).size
        · have hbig2 : 16777216 < ((textB (l.take k)).size : Int) + ((strOfNums (venc (num * 8 + kind))).size + (contB ⟨num, kind, u, b⟩).size : Int) := by omega
          go_wp2
          go_roundw
          case rel => exact ⟨k + 1, by omega, by go_num, good_take Hf.out Hg.out Hgf.out, Hb2.out, by simp; omega, _, Ho2.out, hs, fun h => by omega⟩
          case measure => simp [intOf]; omega
        · have hbig2 : ((textB (l.take k)).size : Int) + ((strOfNums (venc (num * 8 + kind))).size + (contB ⟨num, kind, u, b⟩).size : Int) ≤ 16777216 := by omega
          have hse := Lib.hid (Hs.out (by omega))
          go_wp2_with (at_builtin; refine wpList_append_s _ rfl (.tmp 40) (.tmp 41) 50 9 rfl i0 Try.underlying50 Try.underlying9 hi hz0 hz1 hz2 w.heap.size _ s rfl Ho2.out (strOfNums (venc (num * 8 + kind)) ++ contB ⟨num, kind, u, b⟩) rfl (by rw [ByteArray.size_append]; omega) (by omega) ?_; intro v' w3 ho3 hg3)
          go_roundw
          case rel => exact ⟨k + 1, by omega, by go_num, good_take Hf.out Hg.out Hgf.out, Ho2.out.grown Hb2.out hg3 (by omega), by simp; omega, _, ho3, by rw [hse.out, ← Hfe.out, ← textB_take l k _ Hf.out]; omega, fun _ => by rw [hse.out, ← Hfe.out, ← textB_take l k _ Hf.out]⟩
          case measure => simp [intOf]; omega
    · obtain rfl : k = n := by omega
      have Ht : Hid (l.take k = l) := Lib.hid (by rw [← Hl.out, List.take_length])
      by_cases hbig : 16777216 < (textB (l.take k)).size
      · have He : Hid ((⟨#[]⟩ : ByteArray) = r ∧ 6 = err) := Lib.hid (by
          have hg := Hg.out
          rw [Ht.out] at hbig hg
          rcases H.out with ⟨h, _⟩ | ⟨_, _, h, h'⟩ | ⟨_, h, _⟩
          · exact absurd hg h
          · exact ⟨h.symm, h'.symm⟩
          · omega)
        go_wp2
        go_ret2
        exact txt_ret Hb.out He.out.1 He.out.2
      · have hc := Hcv.out _ _ _ _ Ho.out
        have He : Hid (s = r ∧ 0 = err) := Lib.hid (by
          have hg := Hg.out
          have hs2 := Hs.out (by omega)
          rw [Ht.out] at hbig hg hs2
          rcases H.out with ⟨h, _⟩ | ⟨_, h, _⟩ | ⟨_, _, h, h'⟩
          · exact absurd hg h
          · omega
          · exact ⟨hs2.trans h.symm, h'.symm⟩)
        obtain ⟨A4, c4, rfl⟩ := Ho.out.form
        go_wp2
        go_ret2
        exact txt_ret Hb.out He.out.1 He.out.2
end Go.Proofs.Ytpnieegaemfffaa
