/- The walks: Write. -/
import Derived.Test.YtpnieegaemfffaaWy
namespace Go.Proofs.Ytpnieegaemfffaa
open Go.RowKit

/-- The bytes of fields. -/
def textB : List Fd → ByteArray
  | [] => ⟨#[]⟩
  | f :: l => formB f ++ textB l
theorem app_nil (s : ByteArray) : s ++ ⟨#[]⟩ = s := by
  apply ByteArray.ext; apply Array.toList_inj.1
  rw [ByteArray.toList_data_append]; simp
theorem nil_app (s : ByteArray) : (⟨#[]⟩ : ByteArray) ++ s = s := by
  apply ByteArray.ext; apply Array.toList_inj.1
  rw [ByteArray.toList_data_append]; simp
theorem textB_snoc (l : List Fd) (f : Fd) : textB (l ++ [f]) = textB l ++ formB f := by
  induction l with
  | nil => simp [textB, app_nil, nil_app]
  | cons g l ih => simp [textB, ih, ByteArray.append_assoc]
def AllGood (l : List Fd) : Prop := ∀ f ∈ l, GoodF f
/-- What any fields are written as: three ways. -/
def WrIs (l : List Fd) (r : ByteArray) (err : Int) : Prop :=
  (¬ AllGood l ∧ r = ⟨#[]⟩ ∧ err = 1) ∨ (AllGood l ∧ 16777216 < (textB l).size ∧ r = ⟨#[]⟩ ∧ err = 6) ∨ (AllGood l ∧ (textB l).size ≤ 16777216 ∧ r = textB l ∧ err = 0)
theorem wrIs_any (l : List Fd) : ∃ r err, WrIs l r err := by
  by_cases h : AllGood l
  · by_cases hs : 16777216 < (textB l).size
    · exact ⟨_, _, .inr (.inl ⟨h, hs, rfl, rfl⟩)⟩
    · exact ⟨_, _, .inr (.inr ⟨h, by omega, rfl, rfl⟩)⟩
  · exact ⟨_, _, .inl ⟨h, rfl, rfl⟩⟩
theorem textB_take (l : List Fd) (k : Nat) (f : Fd) (h : l[k]? = some f) : textB (l.take (k + 1)) = textB (l.take k) ++ formB f := by
  rw [List.take_add_one, h, ← textB_snoc]; rfl
theorem textB_mono (l : List Fd) (k : Nat) : (textB (l.take k)).size ≤ (textB l).size := by
  induction l generalizing k with
  | nil => simp
  | cons f l ih =>
    cases k with
    | zero => exact Nat.zero_le _
    | succ k =>
      have := ih k
      simp only [List.take_succ_cons, textB, ByteArray.size_append]
      omega
theorem good_take {l : List Fd} {k : Nat} {f : Fd} (h : l[k]? = some f) (hg : AllGood (l.take k)) (hf : GoodF f) : AllGood (l.take (k + 1)) := by
  rw [List.take_add_one, h]
  intro g hm
  rcases List.mem_append.1 hm with hm | hm
  · exact hg g hm
  · simp at hm; subst hm; exact hf
/-- What a call leaves that hands back a text and an error. -/
def Txt (w : World) (r : ByteArray) (err : Int) (e : Ending) (w' : World) : Prop := e = .returned (.tuple #[.string r, .int .i64 err]) ∧ Below w.heap.size w w'
theorem txt_ret {w w' : World} {r c : ByteArray} {err x : Int} (hb : Below w.heap.size w w') (h1 : c = r) (h2 : x = err) : Txt w r err (.returned (.tuple #[.string c, .int .i64 x])) w' := by
  subst h1 h2; exact ⟨rfl, hb⟩
theorem good_kind {f : Fd} (h : GoodF f) : 0 ≤ f.kind ∧ f.kind ≤ 5 := by
  rcases h.2.2 with ⟨h, _⟩ | ⟨h, _⟩ | ⟨h, _⟩ | ⟨h, _⟩ <;> omega

set_option maxRecDepth 100000 in
set_option maxHeartbeats 1600000 in
theorem rwrite_any (l : List Fd) (A : Option Addr) (n c : Nat) (w : World) (B : Nat) (hl : Flds w B A n l) (hB : B ≤ w.heap.size) (hok : ∀ f ∈ l, FdOk f) (hsz : (textB l).size ≤ 4611686018427387904) (r : ByteArray) (err : Int) (h : WrIs l r err) :
    Calls Try.prog 20 #[.slice A n c] w (Txt w r err) := by
  obtain ⟨i0, hi, hz0, hz1, hz2⟩ := info_parts Try.info5
  have H := Lib.hid h
  have Hl := Lib.hid hl.len
  have hm : n ≤ 9223372036854775807 := hl.small
  have Hcv := Lib.hid (fun wx v s B (h : OwnS wx B v s) => run_text (P := Try.prog) wx 50 9 Try.underlying50 Try.underlying5 Try.underlying9 B v s h)
  clear h
  go_enter Try.func20, Try.ntmps20
  go_wp2_with fail
  go_loopw [4, 5, 6] (fun v b i wr => ∃ k : Nat, k ≤ n ∧ i = .int .i64 k ∧ AllGood (l.take k) ∧ Below w.heap.size w wr ∧ ∃ s, OwnS wr w.heap.size v s ∧ s.size ≤ 16777216 ∧ ((b = .bool false ∧ s = textB (l.take k)) ∨ (b = .bool true ∧ 16777216 < (textB (l.take k)).size))) (fun _ _ i _ => n - (intOf i).toNat)
  case atStart => exact ⟨0, by omega, rfl, fun f h => by simp at h, Below.refl _ _, _, ownS_nil _ _, by decide, .inl ⟨rfl, rfl⟩⟩
  case round =>
    obtain ⟨k, hk, rfl, hg, hb, s, ho, hs, hcase⟩ := hrel
    have z0 := hb.size
    have Hb := Lib.hid hb
    have Hg := Lib.hid hg
    have Ho := Lib.hid ho
    clear hb hg
    by_cases hlt : k < n
    · obtain ⟨b1, o1, rfl, hb1, hc1⟩ := hl.at_ (by omega)
      obtain ⟨f, hf⟩ : ∃ f, l[k]? = some f := ⟨_, List.getElem?_eq_getElem (by rw [Hl.out]; exact hlt)⟩
      obtain ⟨x0, x1, x2, x3⟩ := hc1 k f hf
      rw [Nat.mul_comm 4 k] at x0 x1 x2 x3
      have y0 := (Hb.out.cell (p := ⟨b1, o1 + k * 4, none⟩) (by dsimp only; omega)).trans x0
      have y1 := (Hb.out.cell (p := ⟨b1, o1 + k * 4 + 1, none⟩) (by dsimp only; omega)).trans x1
      have y2 := (Hb.out.cell (p := ⟨b1, o1 + k * 4 + 2, none⟩) (by dsimp only; omega)).trans x2
      have y3 := (Hb.out.cell (p := ⟨b1, o1 + k * 4 + 3, none⟩) (by dsimp only; omega)).trans x3
      have Hf := Lib.hid hf
      have fm : f ∈ l := List.mem_of_getElem? hf
      have Hfm := Lib.hid fm
      have T := one_any f wr (hok f fm)
      unfold Fd.val at T
      clear x0 x1 x2 x3 hf fm hc1
      have e1 : (textB (l.take (k + 1))).size = (textB (l.take k)).size + (formB f).size := by rw [textB_take l k f Hf.out, ByteArray.size_append]
      have e2 := textB_mono l (k + 1)
      have Hmeas : (intOf (.int .i64 (k : Int))).toNat = k := by simp [intOf]
      obtain ⟨A4, c4, rfl⟩ := Ho.out.form
      rcases hcase with ⟨rfl, rfl⟩ | ⟨rfl, hs2⟩
      · go_wp2_with fail
        refine T.mono ?_
        rintro e w1 ⟨⟨hgf, rfl⟩ | ⟨hgf, rfl⟩, hb1⟩
        · have hf62 : (formB f).size ≤ 4611686018427387904 := by omega
          have Hgf := Lib.hid hgf
          have Ho1 := Lib.hid (Ho.out.below hb1)
          have Hb1 := Lib.hid (Hb.out.trans (hb1.mono z0))
          have z1 := hb1.size
          clear hb1 hgf T
          by_cases hbig : 16777216 < (textB (l.take k)).size + (formB f).size
          · go_wp2
            go_roundw
            case rel => exact ⟨k + 1, by omega, by go_num, good_take Hf.out Hg.out Hgf.out, Hb1.out, _, Ho1.out, hs, .inr ⟨rfl, by omega⟩⟩
            case measure => simp [intOf]; omega
          · go_wp2_with (at_builtin; refine wpList_append_s _ rfl (.tmp 33) (.tmp 34) 50 9 rfl i0 Try.underlying50 Try.underlying9 hi hz0 hz1 hz2 w.heap.size _ (textB (l.take k)) rfl Ho1.out (formB f) rfl (by omega) (by omega) ?_; intro v' w2 ho2 hg2)
            go_roundw
            case rel => exact ⟨k + 1, by omega, by go_num, good_take Hf.out Hg.out Hgf.out, Ho1.out.grown Hb1.out hg2 (by omega), _, ho2, by rw [ByteArray.size_append]; omega, .inl ⟨rfl, (textB_take l k f Hf.out).symm⟩⟩
            case measure => simp [intOf]; omega
        · have He : Hid (r = ⟨#[]⟩ ∧ err = 1) := Lib.hid (by
            rcases H.out with ⟨_, h⟩ | ⟨h, _⟩ | ⟨h, _⟩
            · exact h
            · exact absurd (h f Hfm.out) hgf
            · exact absurd (h f Hfm.out) hgf)
          have Hb1 := Lib.hid (Hb.out.trans (hb1.mono z0))
          clear hb1 hgf T
          go_wp2
          go_ret2
          exact txt_ret Hb1.out He.out.1.symm He.out.2.symm
      · go_wp2_with fail
        refine T.mono ?_
        rintro e w1 ⟨⟨hgf, rfl⟩ | ⟨hgf, rfl⟩, hb1⟩
        · have hf62 : (formB f).size ≤ 4611686018427387904 := by omega
          have Hgf := Lib.hid hgf
          have Ho1 := Lib.hid (Ho.out.below hb1)
          have Hb1 := Lib.hid (Hb.out.trans (hb1.mono z0))
          clear hb1 hgf T
          go_wp2
          all_goals
            go_roundw
            case rel => exact ⟨k + 1, by omega, by go_num, good_take Hf.out Hg.out Hgf.out, Hb1.out, _, Ho1.out, hs, .inr ⟨rfl, by omega⟩⟩
            case measure => simp [intOf]; omega
        · have He : Hid (r = ⟨#[]⟩ ∧ err = 1) := Lib.hid (by
            rcases H.out with ⟨_, h⟩ | ⟨h, _⟩ | ⟨h, _⟩
            · exact h
            · exact absurd (h f Hfm.out) hgf
            · exact absurd (h f Hfm.out) hgf)
          have Hb1 := Lib.hid (Hb.out.trans (hb1.mono z0))
          clear hb1 hgf T
          go_wp2
          go_ret2
          exact txt_ret Hb1.out He.out.1.symm He.out.2.symm
    · obtain rfl : k = n := by omega
      have Ht : Hid (l.take k = l) := Lib.hid (by rw [← Hl.out, List.take_length])
      rcases hcase with ⟨rfl, rfl⟩ | ⟨rfl, hs2⟩
      · have hc := Hcv.out _ _ _ _ Ho.out
        have He : Hid (textB (l.take k) = r ∧ 0 = err) := Lib.hid (by
          have hg := Hg.out
          rw [Ht.out] at hs hg ⊢
          rcases H.out with ⟨h, _⟩ | ⟨_, h, _⟩ | ⟨_, _, h, h'⟩
          · exact absurd hg h
          · omega
          · exact ⟨h.symm, h'.symm⟩)
        obtain ⟨A4, c4, rfl⟩ := Ho.out.form
        go_wp2
        go_ret2
        exact txt_ret Hb.out He.out.1 He.out.2
      · have He : Hid ((⟨#[]⟩ : ByteArray) = r ∧ 6 = err) := Lib.hid (by
          have hg := Hg.out
          rw [Ht.out] at hs2 hg
          rcases H.out with ⟨h, _⟩ | ⟨_, _, h, h'⟩ | ⟨_, h, _⟩
          · exact absurd hg h
          · exact ⟨h.symm, h'.symm⟩
          · omega)
        go_wp2
        go_ret2
        exact txt_ret Hb.out He.out.1 He.out.2
end Go.Proofs.Ytpnieegaemfffaa
