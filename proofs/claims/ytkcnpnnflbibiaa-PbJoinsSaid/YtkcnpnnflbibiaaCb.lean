/- The walks: an attribute read. -/
import Derived.Test.YtkcnpnnflbibiaaZo
import Derived.Deep.Cut
import Derived.Deep.CutBlock
set_option linter.unusedVariables false
namespace Go.Proofs.Ytkcnpnnflbibiaa
open Go.RowKit

theorem heap_third (w : World) (a b c : Obj) (k : Nat) (hk : k = w.heap.size + 2) : (((w.alloc a).alloc b).alloc c).heap[k]? = some c := by
  subst hk
  have e1 : ((w.alloc a).alloc b).heap.size = w.heap.size + 2 := by simp
  have h1 := heap_alloc_new ((w.alloc a).alloc b) c
  rwa [e1] at h1
theorem run_field69 (a b c d : Value) (w : World) : (Instr.field 69 (.agg #[a, b, c, d]) 1).run Try.prog w = .ok (.agg #[b, c, d]) w := by kernel_rfl
set_option maxRecDepth 100000 in
set_option maxHeartbeats 6400000 in
theorem attr_any (s : ByteArray) (w : World) (hs : s.size ≤ 140737488351232) : Calls Try.prog 72 #[.string s] w (AttrIs s w) := by
  have hb0 : Below w.heap.size w (((w.alloc (.cells #[.string ⟨#[]⟩, .int .i64 0, .int .i64 0, .int .i64 0, .string ⟨#[]⟩, .int .i64 0, .slice none 0 0, .slice none 0 0, .slice none 0 0] 88)).alloc (.cells #[.string ⟨#[]⟩, .int .i64 0, .int .i64 0, .int .i64 0, .string ⟨#[]⟩, .int .i64 0, .slice none 0 0, .slice none 0 0, .slice none 0 0] 88)).alloc (.cells #[.string ⟨#[]⟩, .int .i64 0, .int .i64 0, .int .i64 0, .string ⟨#[]⟩, .int .i64 0, .slice none 0 0, .slice none 0 0, .slice none 0 0] 88)) := (((Below.refl _ _).alloc (Nat.le_refl _) _).alloc (by simp) _).alloc (by simp; omega) _
  have hgr := (Below.heap_alloc ((w.alloc (.cells #[.string ⟨#[]⟩, .int .i64 0, .int .i64 0, .int .i64 0, .string ⟨#[]⟩, .int .i64 0, .slice none 0 0, .slice none 0 0, .slice none 0 0] 88)).alloc (.cells #[.string ⟨#[]⟩, .int .i64 0, .int .i64 0, .int .i64 0, .string ⟨#[]⟩, .int .i64 0, .slice none 0 0, .slice none 0 0, .slice none 0 0] 88)) (.cells #[.string ⟨#[]⟩, .int .i64 0, .int .i64 0, .int .i64 0, .string ⟨#[]⟩, .int .i64 0, .slice none 0 0, .slice none 0 0, .slice none 0 0] 88) w.heap.size (by simp; omega)).trans ((Below.heap_alloc (w.alloc (.cells #[.string ⟨#[]⟩, .int .i64 0, .int .i64 0, .int .i64 0, .string ⟨#[]⟩, .int .i64 0, .slice none 0 0, .slice none 0 0, .slice none 0 0] 88)) (.cells #[.string ⟨#[]⟩, .int .i64 0, .int .i64 0, .int .i64 0, .string ⟨#[]⟩, .int .i64 0, .slice none 0 0, .slice none 0 0, .slice none 0 0] 88) w.heap.size (by simp)).trans (heap_alloc_new w (.cells #[.string ⟨#[]⟩, .int .i64 0, .int .i64 0, .int .i64 0, .string ⟨#[]⟩, .int .i64 0, .slice none 0 0, .slice none 0 0, .slice none 0 0] 88)))
  have hga := (Below.heap_alloc ((w.alloc (.cells #[.string ⟨#[]⟩, .int .i64 0, .int .i64 0, .int .i64 0, .string ⟨#[]⟩, .int .i64 0, .slice none 0 0, .slice none 0 0, .slice none 0 0] 88)).alloc (.cells #[.string ⟨#[]⟩, .int .i64 0, .int .i64 0, .int .i64 0, .string ⟨#[]⟩, .int .i64 0, .slice none 0 0, .slice none 0 0, .slice none 0 0] 88)) (.cells #[.string ⟨#[]⟩, .int .i64 0, .int .i64 0, .int .i64 0, .string ⟨#[]⟩, .int .i64 0, .slice none 0 0, .slice none 0 0, .slice none 0 0] 88) (w.heap.size + 1) (by simp)).trans (heap_second w (.cells #[.string ⟨#[]⟩, .int .i64 0, .int .i64 0, .int .i64 0, .string ⟨#[]⟩, .int .i64 0, .slice none 0 0, .slice none 0 0, .slice none 0 0] 88) (.cells #[.string ⟨#[]⟩, .int .i64 0, .int .i64 0, .int .i64 0, .string ⟨#[]⟩, .int .i64 0, .slice none 0 0, .slice none 0 0, .slice none 0 0] 88) (w.heap.size + 1) rfl)
  have hgl := heap_third w (.cells #[.string ⟨#[]⟩, .int .i64 0, .int .i64 0, .int .i64 0, .string ⟨#[]⟩, .int .i64 0, .slice none 0 0, .slice none 0 0, .slice none 0 0] 88) (.cells #[.string ⟨#[]⟩, .int .i64 0, .int .i64 0, .int .i64 0, .string ⟨#[]⟩, .int .i64 0, .slice none 0 0, .slice none 0 0, .slice none 0 0] 88) (.cells #[.string ⟨#[]⟩, .int .i64 0, .int .i64 0, .int .i64 0, .string ⟨#[]⟩, .int .i64 0, .slice none 0 0, .slice none 0 0, .slice none 0 0] 88) (w.heap.size + 1 + 1) rfl
  have hz0 : (((w.alloc (.cells #[.string ⟨#[]⟩, .int .i64 0, .int .i64 0, .int .i64 0, .string ⟨#[]⟩, .int .i64 0, .slice none 0 0, .slice none 0 0, .slice none 0 0] 88)).alloc (.cells #[.string ⟨#[]⟩, .int .i64 0, .int .i64 0, .int .i64 0, .string ⟨#[]⟩, .int .i64 0, .slice none 0 0, .slice none 0 0, .slice none 0 0] 88)).alloc (.cells #[.string ⟨#[]⟩, .int .i64 0, .int .i64 0, .int .i64 0, .string ⟨#[]⟩, .int .i64 0, .slice none 0 0, .slice none 0 0, .slice none 0 0] 88)).heap.size = w.heap.size + 3 := by simp
  have HGr := Lib.hid hgr
  have HGa := Lib.hid hga
  have HGl := Lib.hid hgl
  have HB0 := Lib.hid hb0
  have HZ0 := Lib.hid hz0
  have HT := Lib.hid (fields_any s (((w.alloc (.cells #[.string ⟨#[]⟩, .int .i64 0, .int .i64 0, .int .i64 0, .string ⟨#[]⟩, .int .i64 0, .slice none 0 0, .slice none 0 0, .slice none 0 0] 88)).alloc (.cells #[.string ⟨#[]⟩, .int .i64 0, .int .i64 0, .int .i64 0, .string ⟨#[]⟩, .int .i64 0, .slice none 0 0, .slice none 0 0, .slice none 0 0] 88)).alloc (.cells #[.string ⟨#[]⟩, .int .i64 0, .int .i64 0, .int .i64 0, .string ⟨#[]⟩, .int .i64 0, .slice none 0 0, .slice none 0 0, .slice none 0 0] 88)) hs)
  clear hgr hga hgl hb0 hz0
  go_enter Try.func72, Try.ntmps72
  go_wp2_with fail
  refine HT.out.mono ?_
  rintro e w1 ⟨hb1, ⟨l, A, c, hl, rfl, hof⟩ | ⟨err, he, rfl⟩⟩
  · have z1 : w.heap.size + 3 ≤ w1.heap.size := by have := hb1.size; rw [HZ0.out] at this; exact this
    have Hb1 := Lib.hid (HB0.out.trans (hb1.mono HB0.out.size))
    have hgr1 := (hb1.block w.heap.size (by rw [HZ0.out]; omega)).trans HGr.out
    have hga1 := (hb1.block (w.heap.size + 1) (by rw [HZ0.out]; omega)).trans HGa.out
    have hgl1 := (hb1.block (w.heap.size + 1 + 1) (by rw [HZ0.out]; omega)).trans HGl.out
    have HG1 := Lib.hid hgr1
    have HI := Lib.hid (show AInv w1 w1 (w.heap.size + 1) (w.heap.size + 1 + 1) .none (.slice none 0 0) from ⟨by omega, by omega, by omega, ownI_nil _ _, Only2.refl _ _ _, hga1, hgl1⟩)
    have hn : l.length ≤ 9223372036854775807 := hof.2
    have hfb : 0 < l.length → ∃ g, A = some ⟨g, 0, none⟩ ∧ w.heap.size + 3 ≤ g ∧ g < w1.heap.size := fun hn => by
      obtain ⟨g, cap, e, h1, h2⟩ := World.ownsRow.form hof.1 hn
      simp only [Value.slice.injEq] at e
      exact ⟨g, e.1, by rw [HZ0.out] at h1; exact h1, h2⟩
    have Hfb := Lib.hid hfb
    have Hfl := Lib.hid (hof.flds rfl)
    have Hk := Lib.hid (fldsE_ok hl)
    have HL := Lib.hid hl
    clear hof hfb hb1 hgr1 hga1 hgl1 hl HT HGr HGa HGl HB0 HZ0
    go_wp2_with fail
    go_loopw [5, 6, 12] (fun v5 v6 i wr => ∃ k : Nat, k ≤ l.length ∧ i = .int .i64 k ∧ ∃ a v, runF aStep .none (l.take k) = .ok a ∧ v5 = .string a.t ∧ v6 = .bool a.had ∧ AInv w1 wr (w.heap.size + 1) (w.heap.size + 1 + 1) a v) (fun _ _ i _ => l.length - (intOf i).toNat)
    case atStart => exact ⟨0, by omega, rfl, .none, _, rfl, rfl, rfl, HI.out⟩
    case round =>
      obtain ⟨k, hk, rfl, a, v, hrun, rfl, h6, hinv⟩ := hrel
      obtain ⟨bh, hbh⟩ : ∃ b, a.had = b := ⟨_, rfl⟩
      rw [hbh] at h6
      subst h6
      have Hrun := Lib.hid hrun
      have HV := Lib.hid hinv
      have zr := hinv.only.size
      have hwl := wt_mono l k
      have hws := Hk.out.2.2.2.2
      have hsz := Hk.out.2.1
      obtain ⟨hil, htl⟩ := a_lens _ _ _ hrun
      have hn0 : AAcc.none.ints.length = 0 := rfl
      have hn1 : AAcc.none.t.size = 0 := rfl
      rw [hn0] at hil
      rw [hn1] at htl
      clear hrun hinv hn0 hn1
      by_cases hlt : k < l.length
      · obtain ⟨f, hf⟩ : ∃ f, l[k]? = some f := ⟨_, List.getElem?_eq_getElem hlt⟩
        obtain ⟨g, rfl, hg1, hg2⟩ := Hfb.out (by omega)
        obtain ⟨b1, o1, e1, hb1, hc1⟩ := Hfl.out.at_ (by omega)
        simp only [Option.some.injEq, Addr.mk.injEq, and_true] at e1
        obtain ⟨rfl, rfl⟩ := e1
        obtain ⟨x0, x1, x2, x3⟩ := hc1 k f hf
        have hkp : ∀ i, wr.cell? ⟨g, i, none⟩ = w1.cell? ⟨g, i, none⟩ := fun i => World.cell?_of_block (a := ⟨g, i, none⟩) (HV.out.only.block g hg2 (by omega) (by omega))
        rw [Nat.mul_comm 4 k, Nat.zero_add, ← hkp] at x0 x1 x2 x3
        have hwk := wt_take l k f hf
        have hwm := wt_mono l (k + 1)
        have Hok := Lib.hid (Hk.out.2.2.2.1 f (List.mem_of_getElem? hf))
        have HE := Lib.hid (fun e => attrE_bad (s := s) (e := e) HL.out hf Hrun.out)
        have HR := Lib.hid (runF_take aStep .none l k f hf a Hrun.out)
        clear hc1 hf hkp
        obtain ⟨num, kind, u, b⟩ := f
        subst hbh
        dsimp only at x0 x1 x2 x3 hwk
        have hbz : b.size ≤ 16777216 := by omega
        have HVa := Lib.hid (HV.out.alloc (.cells #[.int .i64 num, .int .i64 kind, .int .u64 u, .string b] 24))
        have Hbwa := Lib.hid (show Below w.heap.size w (wr.alloc (.cells #[.int .i64 num, .int .i64 kind, .int .u64 u, .string b] 24)) from Hb1.out.trans (HVa.out.only.below (by omega) (by omega) (by omega)))
        by_cases h1 : num = 1
        · subst h1
          by_cases hkd : kind = 2
          · subst hkd
            have Hst := Lib.hid (show aStep a ⟨1, 2, u, b⟩ = .ok { a with name := b } by simp [aStep])
            have HC := Lib.hid (fun w => text_yes 1 u b w)
            unfold Fd.val at HC
            go_wp2_with fail
            refine (HC.out _).mono ?_
            rintro e w3 ⟨rfl, hb3⟩
            have HW := Lib.hid (HVa.out.below hb3)
            have hc3 : w3.cell? ⟨w.heap.size + 1, 0, none⟩ = some (.string a.name) := cell_of_row _ _ 0 _ 88 (0, 0) HW.out.ta
            have hf3 : w3.frozen? ⟨w.heap.size + 1, 0, none⟩ = false := by simp [World.frozen?, HW.out.ta]
            have HI3 := Lib.hid (HW.out.seta { a with name := b } 0 (.string b) rfl rfl rfl rfl rfl)
            clear hb3
            go_wp2
            go_roundw
            case rel => exact ⟨k + 1, by omega, by go_num, { a with name := b }, v, HR.out.trans Hst.out, rfl, rfl, HI3.out⟩
            case measure => simp [intOf]; omega
          · have Hst := Lib.hid (show aStep a ⟨1, kind, u, b⟩ = .error 3 by simp [aStep, hkd])
            have HC := Lib.hid (fun w => text_no 1 kind u b w hkd)
            unfold Fd.val at HC
            go_wp2_with fail
            refine (HC.out _).mono ?_
            rintro e w3 ⟨rfl, hb3⟩
            exact ⟨rfl, attr_no (Hbwa.out.trans (hb3.mono Hbwa.out.size)) (HE.out 3 Hst.out)⟩
        by_cases h2 : num = 2
        · subst h2
          by_cases hkd : kind = 5
          · subst hkd
            have Hst := Lib.hid (show aStep a ⟨2, 5, u, b⟩ = .ok { a with f := flt u } by simp [aStep])
            have HF := Lib.hid (fun w => float_any u w Hok.out.u0 Hok.out.u1)
            go_wp2_with fail
            refine (must_yes _ _).mono ?_
            rintro e w3 ⟨rfl, rfl⟩
            go_wp2_with fail
            refine (HF.out _).mono ?_
            rintro e w3 ⟨rfl, rfl⟩
            have hc3 : (wr.alloc (.cells #[.int .i64 2, .int .i64 5, .int .u64 u, .string b] 24)).cell? ⟨w.heap.size + 1 + 1, 2, none⟩ = some (.int .i64 a.f) := cell_of_row _ _ 2 _ 88 (0, 0) HVa.out.tl
            have hf3 : (wr.alloc (.cells #[.int .i64 2, .int .i64 5, .int .u64 u, .string b] 24)).frozen? ⟨w.heap.size + 1 + 1, 2, none⟩ = false := by simp [World.frozen?, HVa.out.tl]
            have HI3 := Lib.hid (HVa.out.setl { a with f := flt u } 2 (.int .i64 (flt u)) rfl rfl rfl rfl)
            go_wp2
            go_roundw
            case rel => exact ⟨k + 1, by omega, by go_num, { a with f := flt u }, v, HR.out.trans Hst.out, rfl, rfl, HI3.out⟩
            case measure => simp [intOf]; omega
          · have Hst := Lib.hid (show aStep a ⟨2, kind, u, b⟩ = .error 3 by simp [aStep, hkd])
            have e5 : (kind == 5) = false := by simpa using hkd
            go_wp2_with fail
            refine (must_no _ _).mono ?_
            rintro e w3 ⟨rfl, rfl⟩
            exact ⟨rfl, attr_no Hbwa.out (HE.out 3 Hst.out)⟩
        by_cases h3 : num = 3
        · subst h3
          by_cases hkd : kind = 0
          · subst hkd
            have Hst := Lib.hid (show aStep a ⟨3, 0, u, b⟩ = .ok { a with i := i64 u } by simp [aStep])
            have HC := Lib.hid (fun w => varint_yes 3 u b w)
            unfold Fd.val at HC
            go_wp2_with fail
            refine (HC.out _).mono ?_
            rintro e w3 ⟨rfl, hb3⟩
            have HW := Lib.hid (HVa.out.below hb3)
            have hc3 : w3.cell? ⟨w.heap.size + 1 + 1, 3, none⟩ = some (.int .i64 a.i) := cell_of_row _ _ 3 _ 88 (0, 0) HW.out.tl
            have hf3 : w3.frozen? ⟨w.heap.size + 1 + 1, 3, none⟩ = false := by simp [World.frozen?, HW.out.tl]
            have HI3 := Lib.hid (HW.out.setl { a with i := i64 u } 3 (.int .i64 (i64 u)) rfl rfl rfl rfl)
            clear hb3
            go_wp2
            go_roundw
            case rel => exact ⟨k + 1, by omega, by go_num, { a with i := i64 u }, v, HR.out.trans Hst.out, rfl, rfl, HI3.out⟩
            case measure => simp [intOf]; omega
          · have Hst := Lib.hid (show aStep a ⟨3, kind, u, b⟩ = .error 3 by simp [aStep, hkd])
            have HC := Lib.hid (fun w => varint_no 3 kind u b w hkd)
            unfold Fd.val at HC
            go_wp2_with fail
            refine (HC.out _).mono ?_
            rintro e w3 ⟨rfl, hb3⟩
            exact ⟨rfl, attr_no (Hbwa.out.trans (hb3.mono Hbwa.out.size)) (HE.out 3 Hst.out)⟩
        by_cases h4 : num = 4
        · subst h4
          by_cases hkd : kind = 2
          · subst hkd
            have Hst := Lib.hid (show aStep a ⟨4, 2, u, b⟩ = .ok { a with s := b } by simp [aStep])
            have HC := Lib.hid (fun w => text_yes 4 u b w)
            unfold Fd.val at HC
            go_wp2_with fail
            refine (HC.out _).mono ?_
            rintro e w3 ⟨rfl, hb3⟩
            have HW := Lib.hid (HVa.out.below hb3)
            have hc3 : w3.cell? ⟨w.heap.size + 1 + 1, 4, none⟩ = some (.string a.s) := cell_of_row _ _ 4 _ 88 (0, 0) HW.out.tl
            have hf3 : w3.frozen? ⟨w.heap.size + 1 + 1, 4, none⟩ = false := by simp [World.frozen?, HW.out.tl]
            have HI3 := Lib.hid (HW.out.setl { a with s := b } 4 (.string b) rfl rfl rfl rfl)
            clear hb3
            go_wp2
            go_roundw
            case rel => exact ⟨k + 1, by omega, by go_num, { a with s := b }, v, HR.out.trans Hst.out, rfl, rfl, HI3.out⟩
            case measure => simp [intOf]; omega
          · have Hst := Lib.hid (show aStep a ⟨4, kind, u, b⟩ = .error 3 by simp [aStep, hkd])
            have HC := Lib.hid (fun w => text_no 4 kind u b w hkd)
            unfold Fd.val at HC
            go_wp2_with fail
            refine (HC.out _).mono ?_
            rintro e w3 ⟨rfl, hb3⟩
            exact ⟨rfl, attr_no (Hbwa.out.trans (hb3.mono Hbwa.out.size)) (HE.out 3 Hst.out)⟩
        by_cases h5 : num = 5
        · subst h5
          by_cases hkd : kind = 2
          · subst hkd
            have Hst := Lib.hid (show aStep a ⟨5, 2, u, b⟩ = .ok { a with t := a.t ++ b, had := true } by simp [aStep])
            have HC := Lib.hid (fun w => text_yes 5 u b w)
            unfold Fd.val at HC
            have hcat : ¬ 9223372036854775807 < a.t.size + b.size := by omega
            go_wp2_with fail
            refine (HC.out _).mono ?_
            rintro e w3 ⟨rfl, hb3⟩
            have HI3 := Lib.hid ((HVa.out.below hb3).set_no { a with t := a.t ++ b, had := true } rfl rfl rfl rfl rfl rfl)
            clear hb3
            go_wp2
            go_roundw
            case rel => exact ⟨k + 1, by omega, by go_num, { a with t := a.t ++ b, had := true }, v, HR.out.trans Hst.out, rfl, rfl, HI3.out⟩
            case measure => simp [intOf]; omega
          · have Hst := Lib.hid (show aStep a ⟨5, kind, u, b⟩ = .error 3 by simp [aStep, hkd])
            have HC := Lib.hid (fun w => text_no 5 kind u b w hkd)
            unfold Fd.val at HC
            go_wp2_with fail
            refine (HC.out _).mono ?_
            rintro e w3 ⟨rfl, hb3⟩
            exact ⟨rfl, attr_no (Hbwa.out.trans (hb3.mono Hbwa.out.size)) (HE.out 3 Hst.out)⟩
        by_cases h8 : num = 8
        · subst h8
          have hst : ∀ x, aStep a ⟨8, kind, u, b⟩ = x ↔ ((orErr 3 (varsS ⟨8, kind, u, b⟩)).map fun m => { a with ints := a.ints ++ m }) = x := by intro x; simp [aStep]
          have Hst := Lib.hid hst
          clear hst
          have HC := Lib.hid (varints_any v a.ints ⟨8, kind, u, b⟩ w1.heap.size (wr.alloc (.cells #[.int .i64 8, .int .i64 kind, .int .u64 u, .string b] 24)) (HVa.out.own) (by simp; omega) hbz (by omega))
          unfold Fd.val at HC
          have c8 : (wr.alloc (.cells #[.int .i64 8, .int .i64 kind, .int .u64 u, .string b] 24)).cell? ⟨w.heap.size + 1 + 1, 8, none⟩ = some v := cell_of_row _ _ 8 _ 88 (0, 0) HVa.out.tl
          go_wp2_with fail
          refine HC.out.mono ?_
          rintro e w3 ⟨hg3, ⟨m, v', hm, rfl, ho3, hf3⟩ | ⟨hm, rfl⟩⟩
          · obtain ⟨Aw, nw, cw, hvw⟩ : ∃ A m c, v' = .slice A m c := (by obtain ⟨A, c, e⟩ := OwnL.form ho3; exact ⟨A, _, c, e⟩)
            subst hvw
            have HI3 := Lib.hid (HVa.out.more hg3 ho3)
            have ht3 := HVa.out.tl_grown hg3
            have hc3 : w3.cell? ⟨w.heap.size + 1 + 1, 8, none⟩ = some v := cell_of_row _ _ 8 _ 88 (0, 0) ht3
            have hf3 : w3.frozen? ⟨w.heap.size + 1 + 1, 8, none⟩ = false := by simp [World.frozen?, ht3]
            have Hm := Lib.hid hm
            clear hg3 ho3 hm ht3
            go_wp2
            go_roundw
            case rel => exact ⟨k + 1, by omega, by go_num, { a with ints := a.ints ++ m }, _, (HR.out.trans ((Hst.out _).2 (by rw [Hm.out]; rfl))), rfl, rfl, HI3.out⟩
            case measure => simp [intOf]; omega
          · exact ⟨rfl, attr_no (Hbwa.out.grown hg3 Hbwa.out.size (fun k hk => by have := (OwnL.lt HVa.out.own k hk).1; omega)) (HE.out 3 ((Hst.out _).2 (by rw [hm]; rfl)))⟩
        by_cases h20 : num = 20
        · subst h20
          by_cases hkd : kind = 0
          · subst hkd
            have Hst := Lib.hid (show aStep a ⟨20, 0, u, b⟩ = .ok { a with kind := i64 u } by simp [aStep])
            have HC := Lib.hid (fun w => varint_yes 20 u b w)
            unfold Fd.val at HC
            go_wp2_with fail
            refine (HC.out _).mono ?_
            rintro e w3 ⟨rfl, hb3⟩
            have HW := Lib.hid (HVa.out.below hb3)
            have hc3 : w3.cell? ⟨w.heap.size + 1, 1, none⟩ = some (.int .i64 a.kind) := cell_of_row _ _ 1 _ 88 (0, 0) HW.out.ta
            have hf3 : w3.frozen? ⟨w.heap.size + 1, 1, none⟩ = false := by simp [World.frozen?, HW.out.ta]
            have HI3 := Lib.hid (HW.out.seta { a with kind := i64 u } 1 (.int .i64 (i64 u)) rfl rfl rfl rfl rfl)
            clear hb3
            go_wp2
            go_roundw
            case rel => exact ⟨k + 1, by omega, by go_num, { a with kind := i64 u }, v, HR.out.trans Hst.out, rfl, rfl, HI3.out⟩
            case measure => simp [intOf]; omega
          · have Hst := Lib.hid (show aStep a ⟨20, kind, u, b⟩ = .error 3 by simp [aStep, hkd])
            have HC := Lib.hid (fun w => varint_no 20 kind u b w hkd)
            unfold Fd.val at HC
            go_wp2_with fail
            refine (HC.out _).mono ?_
            rintro e w3 ⟨rfl, hb3⟩
            exact ⟨rfl, attr_no (Hbwa.out.trans (hb3.mono Hbwa.out.size)) (HE.out 3 Hst.out)⟩
        have e1 : (num == 1) = false := by simpa using h1
        have e2 : (num == 2) = false := by simpa using h2
        have e3 : (num == 3) = false := by simpa using h3
        have e4 : (num == 4) = false := by simpa using h4
        have e5 : (num == 5) = false := by simpa using h5
        have e8 : (num == 8) = false := by simpa using h8
        have e20 : (num == 20) = false := by simpa using h20
        have Hst := Lib.hid (show aStep a ⟨num, kind, u, b⟩ = .ok a by simp [aStep, h1, h2, h3, h4, h5, h8, h20])
        go_wp2
        go_roundw
        case rel => exact ⟨k + 1, by omega, by go_num, a, v, HR.out.trans Hst.out, rfl, rfl, HVa.out⟩
        case measure => simp [intOf]; omega
      · obtain rfl : k = l.length := by omega
        have hall : runF aStep .none l = .ok a := by have := Hrun.out; rw [List.take_length] at this; exact this
        have hten : attrE s = aEnd a := by unfold attrE; rw [HL.out]; simp only []; rw [hall]
        have Hten := Lib.hid hten
        have Hbw := Lib.hid (show Below w.heap.size w wr from Hb1.out.trans (HV.out.only.below (by omega) (by omega) (by omega)))
        have HGr := Lib.hid ((HV.out.only.block w.heap.size (by omega) (by omega) (by omega)).trans HG1.out)
        obtain ⟨Av, cv, hv⟩ := OwnL.form HV.out.own
        subst hv
        clear hall hten
        go_upto_if 62 with (fail)
        go_cut [] from 63 (fun wx => ∃ t Ad nd cd Ae ne ce, aTen a = .ok t ∧ AMid w w1 wx a t (.slice Av a.ints.length cv) (.slice Ad nd cd) (.slice Ae ne ce))
        case first =>
          cases bh with
          | false =>
            have hhad := hbh
            have Hte := Lib.hid (show aTen a = .ok tNone by simp [aTen, hhad])
            clear hhad
            go_wp2_with fail
            go_meet
            exact ⟨_, _, _, _, _, _, _, Hte.out, HV.out.mid z1 Hbw.out HGr.out⟩
          | true =>
            have hhad := hbh
            have Hhad := Lib.hid hhad
            have HF69 := fun n d e w => run_field69 n d e w
            have HTn := Lib.hid (tensor_any a.t wr (by omega))
            clear hhad
            go_wp2_with fail
            refine HTn.out.mono ?_
            rintro e w2 ⟨hb2, ⟨n, cs, hn, rfl, hR⟩ | ⟨err, hn, rfl⟩⟩
            · obtain ⟨dv, ev, rfl, hd, he⟩ := hR
              have Hte := Lib.hid (show aTen a = .ok n.t by simp [aTen, Hhad.out, hn])
              have HM := Lib.hid (HV.out.mid_t z1 Hbw.out HGr.out hb2 hd he)
              have HV2 := HV.out.below hb2
              obtain ⟨Ad, nd, cd, rfl, _⟩ := hd
              obtain ⟨Ae, ne, ce, rfl, _⟩ := he
              have t5 : w2.cell? ⟨w.heap.size + 1 + 1, 5, none⟩ = some (.int .i64 0) := cell_of_row _ _ 5 _ 88 (0, 0) HV2.tl
              have t6 : w2.cell? ⟨w.heap.size + 1 + 1, 6, none⟩ = some (.slice none 0 0) := cell_of_row _ _ 6 _ 88 (0, 0) HV2.tl
              have t7 : w2.cell? ⟨w.heap.size + 1 + 1, 7, none⟩ = some (.slice none 0 0) := cell_of_row _ _ 7 _ 88 (0, 0) HV2.tl
              have tf : ∀ i, w2.frozen? ⟨w.heap.size + 1 + 1, i, none⟩ = false := fun i => by simp [World.frozen?, HV2.tl]
              have tf5 := tf 5
              have tf6 := tf 6
              have tf7 := tf 7
              clear hn hb2 HV2 tf
              go_wp2_with fail
              go_meet
              exact ⟨_, _, _, _, _, _, _, Hte.out, HM.out⟩
            · exact ⟨rfl, attr_no (Hbw.out.trans (hb2.mono Hbw.out.size)) (by rw [Hten.out]; simp [aEnd, aTen, Hhad.out, hn])⟩
        case rest =>
          obtain ⟨t, Ad, nd, cd, Ae, ne, ce, hte, hmid⟩ := hcut
          have Hte := Lib.hid hte
          have HM := Lib.hid hmid
          have ha1 : wc.cell? ⟨w.heap.size + 1, 1, none⟩ = some (.int .i64 a.kind) := cell_of_row _ _ 1 _ 88 (0, 0) hmid.ta
          have HB := Lib.hid hmid.below
          clear hte hmid
          go_upto_block 3 with (fail)
          go_cut [] from 69 (fun wx => ∃ x cs, aKind a t = .ok x ∧ AFin w w1 wx x cs)
          case first =>
            have ha2 : wc.cell? ⟨w.heap.size + 1, 2, none⟩ = some (.int .i64 0) := cell_of_row _ _ 2 _ 88 (0, 0) HM.out.ta
            have ha3 : wc.cell? ⟨w.heap.size + 1, 3, none⟩ = some (.int .i64 0) := cell_of_row _ _ 3 _ 88 (0, 0) HM.out.ta
            have ha4 : wc.cell? ⟨w.heap.size + 1, 4, none⟩ = some (.string ⟨#[]⟩) := cell_of_row _ _ 4 _ 88 (0, 0) HM.out.ta
            have ha5 : wc.cell? ⟨w.heap.size + 1, 5, none⟩ = some (.int .i64 0) := cell_of_row _ _ 5 _ 88 (0, 0) HM.out.ta
            have ha6 : wc.cell? ⟨w.heap.size + 1, 6, none⟩ = some (.slice none 0 0) := cell_of_row _ _ 6 _ 88 (0, 0) HM.out.ta
            have ha7 : wc.cell? ⟨w.heap.size + 1, 7, none⟩ = some (.slice none 0 0) := cell_of_row _ _ 7 _ 88 (0, 0) HM.out.ta
            have ha8 : wc.cell? ⟨w.heap.size + 1, 8, none⟩ = some (.slice none 0 0) := cell_of_row _ _ 8 _ 88 (0, 0) HM.out.ta
            have hl2 : wc.cell? ⟨w.heap.size + 1 + 1, 2, none⟩ = some (.int .i64 a.f) := cell_of_row _ _ 2 _ 88 (0, 0) HM.out.tl
            have hl3 : wc.cell? ⟨w.heap.size + 1 + 1, 3, none⟩ = some (.int .i64 a.i) := cell_of_row _ _ 3 _ 88 (0, 0) HM.out.tl
            have hl4 : wc.cell? ⟨w.heap.size + 1 + 1, 4, none⟩ = some (.string a.s) := cell_of_row _ _ 4 _ 88 (0, 0) HM.out.tl
            have hl5 : wc.cell? ⟨w.heap.size + 1 + 1, 5, none⟩ = some (.int .i64 t.typ) := cell_of_row _ _ 5 _ 88 (0, 0) HM.out.tl
            have hl6 : wc.cell? ⟨w.heap.size + 1 + 1, 6, none⟩ = some (.slice Ad nd cd) := cell_of_row _ _ 6 _ 88 (0, 0) HM.out.tl
            have hl7 : wc.cell? ⟨w.heap.size + 1 + 1, 7, none⟩ = some (.slice Ae ne ce) := cell_of_row _ _ 7 _ 88 (0, 0) HM.out.tl
            have hl8 : wc.cell? ⟨w.heap.size + 1 + 1, 8, none⟩ = some (.slice Av a.ints.length cv) := cell_of_row _ _ 8 _ 88 (0, 0) HM.out.tl
            have hfz : ∀ i, wc.frozen? ⟨w.heap.size + 1, i, none⟩ = false := fun i => by simp [World.frozen?, HM.out.ta]
            have hfz2 := hfz 2
            have hfz3 := hfz 3
            have hfz4 := hfz 4
            have hfz5 := hfz 5
            have hfz6 := hfz 6
            have hfz7 := hfz 7
            have hfz8 := hfz 8
            clear hfz
            by_cases k1 : a.kind = 1
            · have HF := Lib.hid (HM.out.k1 k1)
              have Hk2 := Lib.hid (show aKind a t = .ok ⟨a.name, 1, a.f, 0, ⟨#[]⟩, tNone, []⟩ by simp [aKind, k1])
              have ek1 : (a.kind == 1) = true := by simpa using k1
              clear k1
              go_wp2_with fail
              go_meet
              exact ⟨_, _, Hk2.out, HF.out⟩
            have ek1 : (a.kind == 1) = false := by simpa using k1
            by_cases k2 : a.kind = 2
            · have HF := Lib.hid (HM.out.k2 k2)
              have Hk2 := Lib.hid (show aKind a t = .ok ⟨a.name, 2, 0, a.i, ⟨#[]⟩, tNone, []⟩ by simp [aKind, k2])
              have ek2 : (a.kind == 2) = true := by simpa using k2
              clear k2
              go_wp2_with fail
              go_meet
              exact ⟨_, _, Hk2.out, HF.out⟩
            have ek2 : (a.kind == 2) = false := by simpa using k2
            by_cases k3 : a.kind = 3
            · have HF := Lib.hid (HM.out.k3 k3)
              have Hk2 := Lib.hid (show aKind a t = .ok ⟨a.name, 3, 0, 0, a.s, tNone, []⟩ by simp [aKind, k3])
              have ek3 : (a.kind == 3) = true := by simpa using k3
              clear k3
              go_wp2_with fail
              go_meet
              exact ⟨_, _, Hk2.out, HF.out⟩
            have ek3 : (a.kind == 3) = false := by simpa using k3
            by_cases k4 : a.kind = 4
            · have HF := Lib.hid (HM.out.k4 k4)
              have Hk2 := Lib.hid (show aKind a t = if a.had then .ok ⟨a.name, 4, 0, 0, ⟨#[]⟩, t, []⟩ else .error 4 by simp [aKind, k4])
              have ek4 : (a.kind == 4) = true := by simpa using k4
              clear k4
              rw [hbh] at Hk2
              clear hbh
              cases bh with
              | true =>
                go_wp2_with fail
                refine (must_yes _ _).mono ?_
                rintro e w3 ⟨rfl, rfl⟩
                go_wp2_with fail
                go_meet
                exact ⟨_, _, Hk2.out, HF.out⟩
              | false =>
                go_wp2_with fail
                refine (must_no _ _).mono ?_
                rintro e w3 ⟨rfl, rfl⟩
                exact ⟨rfl, attr_no HB.out (by rw [Hten.out]; simp [aEnd, Hte.out, Hk2.out])⟩
            have ek4 : (a.kind == 4) = false := by simpa using k4
            by_cases k7 : a.kind = 7
            · have HF := Lib.hid (HM.out.k7 k7)
              have Hk2 := Lib.hid (show aKind a t = .ok ⟨a.name, 7, 0, 0, ⟨#[]⟩, tNone, a.ints⟩ by simp [aKind, k7])
              have ek7 : (a.kind == 7) = true := by simpa using k7
              clear k7
              go_wp2_with fail
              go_meet
              exact ⟨_, _, Hk2.out, HF.out⟩
            have ek7 : (a.kind == 7) = false := by simpa using k7
            have Hno := Lib.hid (show attrE s = .error 5 by rw [Hten.out]; simp [aEnd, Hte.out, aKind, k1, k2, k3, k4, k7])
            clear k1 k2 k3 k4 k7
            go_wp2_with fail
            refine (must_no _ _).mono ?_
            rintro e w3 ⟨rfl, rfl⟩
            exact ⟨rfl, attr_no HB.out Hno.out⟩
          case rest =>
            obtain ⟨x, cs, hk, hfin⟩ := hcut
            rename_i W3
            have Hend := Lib.hid (show attrE s = aLim x by rw [Hten.out]; simp [aEnd, Hte.out, hk])
            have hfr := fin_row repAt (cs := cs) hfin.tr (by obtain ⟨_, _, _, rfl, _⟩ := hfin.rep; simp [putAll]) hfin.below (Nat.le_refl _) hfin.rep (fun k hk => ⟨by have := hfin.sz; omega, by have := hfin.sz; omega, hk.2⟩)
            have Hfr := Lib.hid hfr
            have HBF := Lib.hid hfin.below
            have hA := hfin.ta
            have hR := hfin.tr
            obtain ⟨d, e, g, rfl, ⟨Ad2, nd2, cd2, rfl, _⟩, ⟨Ae2, ne2, ce2, rfl, _⟩, ⟨Ag, ng, cg, rfl, hg⟩⟩ := hfin.rep
            have hng := hg.len
            subst hng
            clear hk hfin hfr hg ha1
            have p0 : wc.cell? ⟨w.heap.size + 1, 0, none⟩ = some (.string x.name) := cell_of_row _ _ 0 _ 88 (0, 0) hA
            have p1 : wc.cell? ⟨w.heap.size + 1, 1, none⟩ = some (.int .i64 x.kind) := cell_of_row _ _ 1 _ 88 (0, 0) hA
            have p2 : wc.cell? ⟨w.heap.size + 1, 2, none⟩ = some (.int .i64 x.f) := cell_of_row _ _ 2 _ 88 (0, 0) hA
            have p3 : wc.cell? ⟨w.heap.size + 1, 3, none⟩ = some (.int .i64 x.i) := cell_of_row _ _ 3 _ 88 (0, 0) hA
            have p4 : wc.cell? ⟨w.heap.size + 1, 4, none⟩ = some (.string x.s) := cell_of_row _ _ 4 _ 88 (0, 0) hA
            have p5 : wc.cell? ⟨w.heap.size + 1, 5, none⟩ = some (.int .i64 x.t.typ) := cell_of_row _ _ 5 _ 88 (0, 0) hA
            have p6 : wc.cell? ⟨w.heap.size + 1, 6, none⟩ = some (.slice Ad2 nd2 cd2) := cell_of_row _ _ 6 _ 88 (0, 0) hA
            have p7 : wc.cell? ⟨w.heap.size + 1, 7, none⟩ = some (.slice Ae2 ne2 ce2) := cell_of_row _ _ 7 _ 88 (0, 0) hA
            have p8 : wc.cell? ⟨w.heap.size + 1, 8, none⟩ = some (.slice Ag x.ints.length cg) := cell_of_row _ _ 8 _ 88 (0, 0) hA
            have r0 : wc.cell? ⟨w.heap.size, 0, none⟩ = some (.string ⟨#[]⟩) := cell_of_row _ _ 0 _ 88 (0, 0) hR
            have r1 : wc.cell? ⟨w.heap.size, 1, none⟩ = some (.int .i64 0) := cell_of_row _ _ 1 _ 88 (0, 0) hR
            have r2 : wc.cell? ⟨w.heap.size, 2, none⟩ = some (.int .i64 0) := cell_of_row _ _ 2 _ 88 (0, 0) hR
            have r3 : wc.cell? ⟨w.heap.size, 3, none⟩ = some (.int .i64 0) := cell_of_row _ _ 3 _ 88 (0, 0) hR
            have r4 : wc.cell? ⟨w.heap.size, 4, none⟩ = some (.string ⟨#[]⟩) := cell_of_row _ _ 4 _ 88 (0, 0) hR
            have r5 : wc.cell? ⟨w.heap.size, 5, none⟩ = some (.int .i64 0) := cell_of_row _ _ 5 _ 88 (0, 0) hR
            have r6 : wc.cell? ⟨w.heap.size, 6, none⟩ = some (.slice none 0 0) := cell_of_row _ _ 6 _ 88 (0, 0) hR
            have r7 : wc.cell? ⟨w.heap.size, 7, none⟩ = some (.slice none 0 0) := cell_of_row _ _ 7 _ 88 (0, 0) hR
            have r8 : wc.cell? ⟨w.heap.size, 8, none⟩ = some (.slice none 0 0) := cell_of_row _ _ 8 _ 88 (0, 0) hR
            have hf : ∀ i, wc.frozen? ⟨w.heap.size, i, none⟩ = false := fun i => by simp [World.frozen?, hR]
            have f0 := hf 0
            have f1 := hf 1
            have f2 := hf 2
            have f3 := hf 3
            have f4 := hf 4
            have f5 := hf 5
            have f6 := hf 6
            have f7 := hf 7
            have f8 := hf 8
            clear hf hA hR
            by_cases c0 : x.name.size ≤ 100
            · have d0 : decide ((x.name.size : Int) ≤ 100) = true := by simp; omega
              by_cases c1 : x.s.size ≤ 100
              · have d1 : decide ((x.s.size : Int) ≤ 100) = true := by simp; omega
                by_cases c2 : x.ints.length ≤ 20
                · have d2 : decide ((x.ints.length : Int) ≤ 20) = true := by simp; omega
                  have Hyes := Lib.hid (show attrE s = .ok x by rw [Hend.out]; simp [aLim]; omega)
                  clear c0 c1 c2
                  go_wp2_with fail
                  refine (must_yes _ _).mono ?_
                  rintro e w3 ⟨rfl, rfl⟩
                  go_wp2
                  obtain ⟨G5, B5, R5⟩ := Hfr.out
                  refine bodyPost_ret (results_cell_row rfl _ _ w.heap.size 88 _ (0, 0) _ rfl G5 Try.underlying88 rfl (by kernel_rfl)) rfl ?_
                  exact ⟨B5, .inl ⟨_, _, Hyes.out, rfl, R5⟩⟩
                · have d2 : decide ((x.ints.length : Int) ≤ 20) = false := by simp; omega
                  have Hno := Lib.hid (show attrE s = .error 6 by rw [Hend.out]; simp [aLim]; omega)
                  clear c0 c1 c2
                  go_wp2_with fail
                  refine (must_no _ _).mono ?_
                  rintro e w3 ⟨rfl, rfl⟩
                  exact ⟨rfl, attr_no HBF.out Hno.out⟩
              · have d1 : decide ((x.s.size : Int) ≤ 100) = false := by simp; omega
                have Hno := Lib.hid (show attrE s = .error 6 by rw [Hend.out]; simp [aLim]; omega)
                clear c0 c1
                go_wp2_with fail
                refine (must_no _ _).mono ?_
                rintro e w3 ⟨rfl, rfl⟩
                exact ⟨rfl, attr_no HBF.out Hno.out⟩
            · have d0 : decide ((x.name.size : Int) ≤ 100) = false := by simp; omega
              have Hno := Lib.hid (show attrE s = .error 6 by rw [Hend.out]; simp [aLim]; omega)
              clear c0
              go_wp2_with fail
              refine (must_no _ _).mono ?_
              rintro e w3 ⟨rfl, rfl⟩
              exact ⟨rfl, attr_no HBF.out Hno.out⟩
  · exact ⟨rfl, attr_no (HB0.out.trans (hb1.mono HB0.out.size)) (by unfold attrE; rw [he])⟩
end Go.Proofs.Ytkcnpnnflbibiaa
