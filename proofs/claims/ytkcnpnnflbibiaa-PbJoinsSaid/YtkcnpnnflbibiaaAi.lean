/- The walks: a tensor read. -/
import Derived.Test.YtkcnpnnflbibiaaZl
set_option linter.unusedVariables false
namespace Go.Proofs.Ytkcnpnnflbibiaa
open Go.RowKit

def tData (a : TAcc) : Option (List Int) := if a.raw.toList.isEmpty = false then bytesS a.typ a.raw else some (if a.typ = 1 then a.fl else if a.typ = 7 then a.i64s else a.i32)
def tEnd (a : TAcc) : Except Int Nm :=
  if typd a.typ = false then .error 5 else if errC a.dims ≠ 0 then .error (errC a.dims) else
  match tData a with
  | none => .error 4
  | some d => if tchk ⟨a.typ, a.dims, d⟩ ≠ 0 then .error 4 else if 100 < a.name.size then .error 6 else .ok ⟨a.name, ⟨a.typ, a.dims, d⟩⟩
def tensorE (s : ByteArray) : Except Int Nm :=
  match fldsE s with
  | .error e => .error e
  | .ok l => match runF tStep .none l with
    | .error e => .error e
    | .ok a => tEnd a
/-- What tensor leaves. -/
def TensorIs (s : ByteArray) (w : World) (e : Ending) (w' : World) : Prop :=
  Below w.heap.size w w' ∧ ((∃ t cs, tensorE s = .ok t ∧ e = .returned (.agg cs.toArray) ∧ repNm.R w' (fun k => w.heap.size ≤ k ∧ k < w'.heap.size) cs t) ∨ (∃ err, tensorE s = .error err ∧ e = .panicked (refu err)))
theorem tensor_no {s : ByteArray} {w w' : World} {err : Int} (hb : Below w.heap.size w w') (h : tensorE s = .error err) : TensorIs s w (.panicked (refu err)) w' := ⟨hb, .inr ⟨err, h, rfl⟩⟩
theorem tensorE_bad {s : ByteArray} {l : List Fd} (hl : fldsE s = .ok l) {k : Nat} {f : Fd} (hf : l[k]? = some f) {a : TAcc} (ha : runF tStep .none (l.take k) = .ok a) {e : Int} (hs : tStep a f = .error e) : tensorE s = .error e := by
  unfold tensorE
  rw [hl]
  simp only []
  rw [runF_bad tStep .none l k f hf a ha e hs]
theorem only_low {b : Nat} {x y : World} (h : Only b x y) {B : Nat} (hb : B ≤ b) (hx : B ≤ x.heap.size) : Below B x y := h.below hb hx

theorem below_grown' {w w1 wr w' : World} {gt : Nat} {r : Option Nat} (hb : Below w.heap.size w w1) (ho : Only gt w1 wr) (hg : wr.grownBy w' r) (hz : w.heap.size + 2 ≤ w1.heap.size) (hr : ∀ k, r = some k → w1.heap.size ≤ k) (hgt : w.heap.size ≤ gt := by omega) : Below w.heap.size w w' :=
  (hb.trans (ho.below hgt (by omega))).grown hg (by have := ho.size; omega) fun k hk => by have := hr k hk; omega

set_option maxRecDepth 100000 in
set_option maxHeartbeats 3200000 in
theorem tensor_any (s : ByteArray) (w : World) (hs : s.size ≤ 140737488351232) : Calls Try.prog 54 #[.string s] w (TensorIs s w) := by
  have hgr := heap_alloc_new w (.cells #[.string ⟨#[]⟩, .int .i64 0, .slice none 0 0, .slice none 0 0] 69)
  have hgt := heap_second w (.cells #[.string ⟨#[]⟩, .int .i64 0, .slice none 0 0, .slice none 0 0] 69) (.cells #[.int .i64 0, .slice none 0 0, .slice none 0 0] 47) (w.heap.size + 1) rfl
  have HGt := Lib.hid hgt
  have HGr := Lib.hid hgr
  have T := fields_any s ((w.alloc (.cells #[.string ⟨#[]⟩, .int .i64 0, .slice none 0 0, .slice none 0 0] 69)).alloc (.cells #[.int .i64 0, .slice none 0 0, .slice none 0 0] 47)) hs
  have HT := Lib.hid T
  clear hgr hgt T
  go_enter Try.func54, Try.ntmps54
  go_wp2_with fail
  refine HT.out.mono ?_
  rintro e w1 ⟨hb1, ⟨l, A, c, hl, rfl, hof⟩ | ⟨err, he, rfl⟩⟩
  · have z1 : w.heap.size + 2 ≤ w1.heap.size := by have := hb1.size; simp at this; omega
    have Hb1 := Lib.hid ((((Below.refl w.heap.size w).alloc (Nat.le_refl _) (.cells #[.string ⟨#[]⟩, .int .i64 0, .slice none 0 0, .slice none 0 0] 69)).alloc (by simp) (.cells #[.int .i64 0, .slice none 0 0, .slice none 0 0] 47)).trans (hb1.mono (by simp; omega)))
    have hgt1 : w1.heap[w.heap.size + 1]? = some (.cells #[.int .i64 0, .slice none 0 0, .slice none 0 0] 47 (0, 0)) := (hb1.block _ (by simp)).trans HGt.out
    have hgr1 : w1.heap[w.heap.size]? = some (.cells #[.string ⟨#[]⟩, .int .i64 0, .slice none 0 0, .slice none 0 0] 69 (0, 0)) := (hb1.block _ (by simp; omega)).trans ((Below.heap_alloc _ _ _ (by simp)).trans HGr.out)
    have HG1 := Lib.hid hgr1
    have HI := Lib.hid (show TInv w1 w1 (w.heap.size + 1) .none (.slice none 0 0) (.slice none 0 0) (.slice none 0 0) (.slice none 0 0) from ⟨by omega, four_nil _ _, Only.refl _ _, hgt1⟩)
    have hfl := hof.flds rfl
    have hn : l.length ≤ 9223372036854775807 := hof.2
    have hfb : 0 < l.length → ∃ g, A = some ⟨g, 0, none⟩ ∧ w.heap.size + 2 ≤ g ∧ g < w1.heap.size := fun hn => by
      obtain ⟨g, cap, e, h1, h2⟩ := World.ownsRow.form hof.1 hn
      simp only [Value.slice.injEq] at e
      exact ⟨g, e.1, by simpa using h1, h2⟩
    have Hfb := Lib.hid hfb
    have Hfl := Lib.hid hfl
    have Hk := Lib.hid (fldsE_ok hl)
    have HL := Lib.hid hl
    clear hof hfl hfb hb1 hgt1 hl HT HGt hgr1 HGr
    go_wp2_with fail
    go_loopw [3, 4, 6, 7, 8, 9, 19] (fun v3 v4 v6 v7 v8 v9 i wr => ∃ k : Nat, k ≤ l.length ∧ i = .int .i64 k ∧ ∃ a : TAcc, runF tStep .none (l.take k) = .ok a ∧ a.lens ≤ wt (l.take k) ∧ a.raw.size ≤ 16777216 ∧ v3 = .string a.name ∧ v4 = .string a.raw ∧ TInv w1 wr (w.heap.size + 1) a v6 v7 v8 v9) (fun _ _ _ _ _ _ i _ => l.length - (intOf i).toNat)
    case atStart => exact ⟨0, by omega, rfl, .none, rfl, Nat.zero_le _, Nat.zero_le _, rfl, rfl, HI.out⟩
    case round =>
      obtain ⟨k, hk, rfl, a, hrun, hlen, hraw, rfl, rfl, hinv⟩ := hrel
      have Hrun := Lib.hid hrun
      have HV := Lib.hid hinv
      have zr := hinv.only.size
      have hwl := wt_mono l k
      have hws := Hk.out.2.2.2.2
      have hsz := Hk.out.2.1
      clear hrun hinv
      by_cases hlt : k < l.length
      · obtain ⟨f, hf⟩ : ∃ f, l[k]? = some f := ⟨_, List.getElem?_eq_getElem hlt⟩
        obtain ⟨g, rfl, hg1, hg2⟩ := Hfb.out (by omega)
        obtain ⟨b1, o1, e1, hb1, hc1⟩ := Hfl.out.at_ (by omega)
        simp only [Option.some.injEq, Addr.mk.injEq, and_true] at e1
        obtain ⟨rfl, rfl⟩ := e1
        obtain ⟨x0, x1, x2, x3⟩ := hc1 k f hf
        have hkp : ∀ i, wr.cell? ⟨g, i, none⟩ = w1.cell? ⟨g, i, none⟩ := fun i => World.cell?_of_block (a := ⟨g, i, none⟩) (HV.out.only.block g hg2 (by omega))
        rw [Nat.mul_comm 4 k, Nat.zero_add, ← hkp] at x0 x1 x2 x3
        have hwk := wt_take l k f hf
        have hwm := wt_mono l (k + 1)
        have hok := Hk.out.2.2.2.1 f (List.mem_of_getElem? hf)
        have Hf := Lib.hid hf
        have Hok := Lib.hid hok
        have HE := Lib.hid (fun e => tensorE_bad (s := s) (e := e) HL.out hf Hrun.out)
        have hbz : f.b.size ≤ 16777216 := by omega
        have hlens : a.dims.length ≤ 16777216 ∧ a.fl.length ≤ 16777216 ∧ a.i32.length ≤ 16777216 ∧ a.i64s.length ≤ 16777216 := by unfold TAcc.lens at hlen; omega
        have HR := Lib.hid (runF_take tStep .none l k f hf a Hrun.out)
        clear hc1 hf hok hkp
        obtain ⟨num, kind, u, b⟩ := f
        dsimp only at x0 x1 x2 x3 hbz hwk
        have HVa := Lib.hid (HV.out.alloc (.cells #[.int .i64 num, .int .i64 kind, .int .u64 u, .string b] 24))
        obtain ⟨l1, l2, l3, l4⟩ := hlens
        by_cases h1 : num = 1
        · subst h1
          have hst : ∀ x, tStep a ⟨1, kind, u, b⟩ = x ↔ ((orErr 3 (varsS ⟨1, kind, u, b⟩)).map fun m => { a with dims := a.dims ++ m }) = x := by intro x; simp [tStep]
          have HC := Lib.hid (varints_any _ a.dims ⟨1, kind, u, b⟩ w1.heap.size (wr.alloc (.cells #[.int .i64 1, .int .i64 kind, .int .u64 u, .string b] 24)) (HVa.out.four.o1) (by simp; omega) hbz l1)
          unfold Fd.val at HC
          have Hst := Lib.hid hst
          clear hst
          go_wp2_with fail
          refine HC.out.mono ?_
          rintro e w3 ⟨hg3, ⟨m, v', hm, rfl, ho3, hf3⟩ | ⟨hm, rfl⟩⟩
          · have hI3 := HVa.out.g1 hg3 ho3 hf3
            have hml := vars_len hm
            dsimp only at hml
            have HI3 := Lib.hid hI3
            have Hm := Lib.hid hm
            clear hI3 hg3 ho3 hf3 hm
            go_wp2
            go_roundw
            case rel =>
              refine ⟨k + 1, by omega, by go_num, { a with dims := a.dims ++ m }, (HR.out.trans ((Hst.out _).2 (by rw [Hm.out]; rfl))), ?_, hraw, rfl, rfl, HI3.out⟩
              unfold TAcc.lens at hlen ⊢
              simp only [List.length_append]
              omega
            case measure => simp [intOf]; omega
          · have hz : Below w.heap.size w w3 := below_grown' Hb1.out HVa.out.only hg3 z1 (fun k hk => (OwnL.lt HVa.out.four.o1 k hk).1)
            exact ⟨rfl, tensor_no hz (HE.out 3 ((Hst.out _).2 (by rw [hm]; rfl)))⟩
        by_cases h2 : num = 2
        · subst h2
          by_cases hkd : kind = 0
          · subst hkd
            have hst : tStep a ⟨2, 0, u, b⟩ = .ok { a with typ := i64 u } := by simp [tStep]
            have HC := Lib.hid (fun w => varint_yes 2 u b w)
            unfold Fd.val at HC
            have Hst := Lib.hid hst
            clear hst
            go_wp2_with fail
            refine (HC.out _).mono ?_
            rintro e w3 ⟨rfl, hb3⟩
            have HI3 := Lib.hid ((HVa.out.below hb3).styp (i64 u))
            have ht3 := (HVa.out.below hb3).t
            have hf3 : w3.frozen? ⟨w.heap.size + 1, 0, none⟩ = false := by simp [World.frozen?, ht3]
            have hc3 : w3.cell? ⟨w.heap.size + 1, 0, none⟩ = some (.int .i64 a.typ) := cell_of_row _ _ 0 _ 47 (0, 0) ht3
            clear hb3 ht3
            go_wp2
            go_roundw
            case rel =>
              exact ⟨k + 1, by omega, by go_num, { a with typ := i64 u }, HR.out.trans Hst.out, by unfold TAcc.lens at hlen ⊢; dsimp only; omega, by first | exact hraw | exact hbz, rfl, rfl, HI3.out⟩
            case measure => simp [intOf]; omega
          · have hst : tStep a ⟨2, kind, u, b⟩ = .error 3 := by simp [tStep, hkd]
            have HC := Lib.hid (fun w => varint_no 2 kind u b w hkd)
            unfold Fd.val at HC
            have Hst := Lib.hid hst
            clear hst
            go_wp2_with fail
            refine (HC.out _).mono ?_
            rintro e w3 ⟨rfl, hb3⟩
            have hz : Below w.heap.size w w3 := below_grown' Hb1.out HVa.out.only (grown_below hb3 none) z1 (fun k hk => by cases hk)
            exact ⟨rfl, tensor_no hz (HE.out 3 Hst.out)⟩
        by_cases h4 : num = 4
        · subst h4
          have hst : ∀ x, tStep a ⟨4, kind, u, b⟩ = x ↔ ((orErr 3 (floatsS ⟨4, kind, u, b⟩)).map fun m => { a with fl := a.fl ++ m }) = x := by intro x; simp [tStep]
          have HC := Lib.hid (floats_any _ a.fl ⟨4, kind, u, b⟩ w1.heap.size (wr.alloc (.cells #[.int .i64 4, .int .i64 kind, .int .u64 u, .string b] 24)) (HVa.out.four.o2) (by simp; omega) hbz l2 ⟨Hok.out.u0, Hok.out.u1⟩)
          unfold Fd.val at HC
          have Hst := Lib.hid hst
          clear hst
          go_wp2_with fail
          refine HC.out.mono ?_
          rintro e w3 ⟨hg3, ⟨m, v', hm, rfl, ho3, hf3⟩ | ⟨hm, rfl⟩⟩
          · have hI3 := HVa.out.g2 hg3 ho3 hf3
            have hml := floats_len hm
            dsimp only at hml
            have HI3 := Lib.hid hI3
            have Hm := Lib.hid hm
            clear hI3 hg3 ho3 hf3 hm
            go_wp2
            go_roundw
            case rel =>
              refine ⟨k + 1, by omega, by go_num, { a with fl := a.fl ++ m }, (HR.out.trans ((Hst.out _).2 (by rw [Hm.out]; rfl))), ?_, hraw, rfl, rfl, HI3.out⟩
              unfold TAcc.lens at hlen ⊢
              simp only [List.length_append]
              omega
            case measure => simp [intOf]; omega
          · have hz : Below w.heap.size w w3 := below_grown' Hb1.out HVa.out.only hg3 z1 (fun k hk => (OwnL.lt HVa.out.four.o2 k hk).1)
            exact ⟨rfl, tensor_no hz (HE.out 3 ((Hst.out _).2 (by rw [hm]; rfl)))⟩
        by_cases h5 : num = 5
        · subst h5
          have hst : ∀ x, tStep a ⟨5, kind, u, b⟩ = x ↔ ((orErr 3 (varsS ⟨5, kind, u, b⟩)).map fun m => { a with i32 := a.i32 ++ m }) = x := by intro x; simp [tStep]
          have HC := Lib.hid (varints_any _ a.i32 ⟨5, kind, u, b⟩ w1.heap.size (wr.alloc (.cells #[.int .i64 5, .int .i64 kind, .int .u64 u, .string b] 24)) (HVa.out.four.o3) (by simp; omega) hbz l3)
          unfold Fd.val at HC
          have Hst := Lib.hid hst
          clear hst
          go_wp2_with fail
          refine HC.out.mono ?_
          rintro e w3 ⟨hg3, ⟨m, v', hm, rfl, ho3, hf3⟩ | ⟨hm, rfl⟩⟩
          · have hI3 := HVa.out.g3 hg3 ho3 hf3
            have hml := vars_len hm
            dsimp only at hml
            have HI3 := Lib.hid hI3
            have Hm := Lib.hid hm
            clear hI3 hg3 ho3 hf3 hm
            go_wp2
            go_roundw
            case rel =>
              refine ⟨k + 1, by omega, by go_num, { a with i32 := a.i32 ++ m }, (HR.out.trans ((Hst.out _).2 (by rw [Hm.out]; rfl))), ?_, hraw, rfl, rfl, HI3.out⟩
              unfold TAcc.lens at hlen ⊢
              simp only [List.length_append]
              omega
            case measure => simp [intOf]; omega
          · have hz : Below w.heap.size w w3 := below_grown' Hb1.out HVa.out.only hg3 z1 (fun k hk => (OwnL.lt HVa.out.four.o3 k hk).1)
            exact ⟨rfl, tensor_no hz (HE.out 3 ((Hst.out _).2 (by rw [hm]; rfl)))⟩
        by_cases h7 : num = 7
        · subst h7
          have hst : ∀ x, tStep a ⟨7, kind, u, b⟩ = x ↔ ((orErr 3 (varsS ⟨7, kind, u, b⟩)).map fun m => { a with i64s := a.i64s ++ m }) = x := by intro x; simp [tStep]
          have HC := Lib.hid (varints_any _ a.i64s ⟨7, kind, u, b⟩ w1.heap.size (wr.alloc (.cells #[.int .i64 7, .int .i64 kind, .int .u64 u, .string b] 24)) (HVa.out.four.o4) (by simp; omega) hbz l4)
          unfold Fd.val at HC
          have Hst := Lib.hid hst
          clear hst
          go_wp2_with fail
          refine HC.out.mono ?_
          rintro e w3 ⟨hg3, ⟨m, v', hm, rfl, ho3, hf3⟩ | ⟨hm, rfl⟩⟩
          · have hI3 := HVa.out.g4 hg3 ho3 hf3
            have hml := vars_len hm
            dsimp only at hml
            have HI3 := Lib.hid hI3
            have Hm := Lib.hid hm
            clear hI3 hg3 ho3 hf3 hm
            go_wp2
            go_roundw
            case rel =>
              refine ⟨k + 1, by omega, by go_num, { a with i64s := a.i64s ++ m }, (HR.out.trans ((Hst.out _).2 (by rw [Hm.out]; rfl))), ?_, hraw, rfl, rfl, HI3.out⟩
              unfold TAcc.lens at hlen ⊢
              simp only [List.length_append]
              omega
            case measure => simp [intOf]; omega
          · have hz : Below w.heap.size w w3 := below_grown' Hb1.out HVa.out.only hg3 z1 (fun k hk => (OwnL.lt HVa.out.four.o4 k hk).1)
            exact ⟨rfl, tensor_no hz (HE.out 3 ((Hst.out _).2 (by rw [hm]; rfl)))⟩
        by_cases h8 : num = 8
        · subst h8
          by_cases hkd : kind = 2
          · subst hkd
            have hst : tStep a ⟨8, 2, u, b⟩ = .ok { a with name := b } := by simp [tStep]
            have HC := Lib.hid (fun w => text_yes 8 u b w)
            unfold Fd.val at HC
            have Hst := Lib.hid hst
            clear hst
            go_wp2_with fail
            refine (HC.out _).mono ?_
            rintro e w3 ⟨rfl, hb3⟩
            have HI3 := Lib.hid ((HVa.out.below hb3).sname b)
            have ht3 := (HVa.out.below hb3).t
            have hf3 : w3.frozen? ⟨w.heap.size + 1, 0, none⟩ = false := by simp [World.frozen?, ht3]
            have hc3 : w3.cell? ⟨w.heap.size + 1, 0, none⟩ = some (.int .i64 a.typ) := cell_of_row _ _ 0 _ 47 (0, 0) ht3
            clear hb3 ht3
            go_wp2
            go_roundw
            case rel =>
              exact ⟨k + 1, by omega, by go_num, { a with name := b }, HR.out.trans Hst.out, by unfold TAcc.lens at hlen ⊢; dsimp only; omega, by first | exact hraw | exact hbz, rfl, rfl, HI3.out⟩
            case measure => simp [intOf]; omega
          · have hst : tStep a ⟨8, kind, u, b⟩ = .error 3 := by simp [tStep, hkd]
            have HC := Lib.hid (fun w => text_no 8 kind u b w hkd)
            unfold Fd.val at HC
            have Hst := Lib.hid hst
            clear hst
            go_wp2_with fail
            refine (HC.out _).mono ?_
            rintro e w3 ⟨rfl, hb3⟩
            have hz : Below w.heap.size w w3 := below_grown' Hb1.out HVa.out.only (grown_below hb3 none) z1 (fun k hk => by cases hk)
            exact ⟨rfl, tensor_no hz (HE.out 3 Hst.out)⟩
        by_cases h9 : num = 9
        · subst h9
          by_cases hkd : kind = 2
          · subst hkd
            have hst : tStep a ⟨9, 2, u, b⟩ = .ok { a with raw := b } := by simp [tStep]
            have HC := Lib.hid (fun w => text_yes 9 u b w)
            unfold Fd.val at HC
            have Hst := Lib.hid hst
            clear hst
            go_wp2_with fail
            refine (HC.out _).mono ?_
            rintro e w3 ⟨rfl, hb3⟩
            have HI3 := Lib.hid ((HVa.out.below hb3).sraw b)
            have ht3 := (HVa.out.below hb3).t
            have hf3 : w3.frozen? ⟨w.heap.size + 1, 0, none⟩ = false := by simp [World.frozen?, ht3]
            have hc3 : w3.cell? ⟨w.heap.size + 1, 0, none⟩ = some (.int .i64 a.typ) := cell_of_row _ _ 0 _ 47 (0, 0) ht3
            clear hb3 ht3
            go_wp2
            go_roundw
            case rel =>
              exact ⟨k + 1, by omega, by go_num, { a with raw := b }, HR.out.trans Hst.out, by unfold TAcc.lens at hlen ⊢; dsimp only; omega, by first | exact hraw | exact hbz, rfl, rfl, HI3.out⟩
            case measure => simp [intOf]; omega
          · have hst : tStep a ⟨9, kind, u, b⟩ = .error 3 := by simp [tStep, hkd]
            have HC := Lib.hid (fun w => text_no 9 kind u b w hkd)
            unfold Fd.val at HC
            have Hst := Lib.hid hst
            clear hst
            go_wp2_with fail
            refine (HC.out _).mono ?_
            rintro e w3 ⟨rfl, hb3⟩
            have hz : Below w.heap.size w w3 := below_grown' Hb1.out HVa.out.only (grown_below hb3 none) z1 (fun k hk => by cases hk)
            exact ⟨rfl, tensor_no hz (HE.out 3 Hst.out)⟩
        have e1 : (num == 1) = false := by simpa using h1
        have e2 : (num == 2) = false := by simpa using h2
        have e4 : (num == 4) = false := by simpa using h4
        have e5 : (num == 5) = false := by simpa using h5
        have e7 : (num == 7) = false := by simpa using h7
        have e8 : (num == 8) = false := by simpa using h8
        have e9 : (num == 9) = false := by simpa using h9
        have hst : tStep a ⟨num, kind, u, b⟩ = .ok a := by simp [tStep, h1, h2, h4, h5, h7, h8, h9]
        have Hst := Lib.hid hst
        clear hst
        go_wp2
        go_roundw
        case rel => exact ⟨k + 1, by omega, by go_num, a, HR.out.trans Hst.out, by omega, hraw, rfl, rfl, HVa.out⟩
        case measure => simp [intOf]; omega
      · obtain rfl : k = l.length := by omega
        have hall : runF tStep .none l = .ok a := by have := Hrun.out; rw [List.take_length] at this; exact this
        have hten : tensorE s = tEnd a := by unfold tensorE; rw [HL.out]; simp only []; rw [hall]
        have Hten := Lib.hid hten
        have htyp : wr.cell? ⟨w.heap.size + 1, 0, none⟩ = some (.int .i64 a.typ) := cell_of_row _ _ 0 _ 47 (0, 0) HV.out.t
        have HY := Lib.hid (fun w => typed_any a.typ w)
        have Hbw := Lib.hid (show Below w.heap.size w wr from Hb1.out.trans (HV.out.only.below (by omega) (by omega)))
        have hdl : a.dims.length ≤ 16777216 := by unfold TAcc.lens at hlen; omega
        obtain ⟨A6, c6, h6⟩ := OwnL.form HV.out.four.o1
        obtain ⟨A7, c7, h7⟩ := OwnL.form HV.out.four.o2
        obtain ⟨A8, c8, h8⟩ := OwnL.form HV.out.four.o3
        obtain ⟨A9, c9, h9⟩ := OwnL.form HV.out.four.o4
        subst h6 h7 h8 h9
        clear hall hten
        cases ht : typd a.typ with
        | false =>
          have hno : tensorE s = .error 5 := by rw [Hten.out]; simp [tEnd, ht]
          rw [ht] at HY
          have Hno := Lib.hid hno
          clear hno ht
          go_wp2_with fail
          refine (HY.out _).mono ?_
          rintro e w3 ⟨rfl, rfl⟩
          go_wp2_with fail
          refine (must_no _ _).mono ?_
          rintro e w3 ⟨rfl, rfl⟩
          exact ⟨rfl, tensor_no Hbw.out Hno.out⟩
        | true =>
          rw [ht] at HY
          have Ht := Lib.hid ht
          clear ht
          go_wp2_with fail
          refine (HY.out _).mono ?_
          rintro e w3 ⟨rfl, rfl⟩
          go_wp2_with fail
          refine (must_yes _ _).mono ?_
          rintro e w3 ⟨rfl, rfl⟩
          clear htyp
          have HVt := Lib.hid HV.out.two
          obtain ⟨i3, hi3, hz30, hz31, hz32⟩ := info_parts Try.info3
          go_wp2_with fail
          go_loopw [13, 65] (fun _ j ws => ∃ q : Nat, q ≤ a.dims.length ∧ j = .int .i64 q ∧ ∃ v, TIn2 w1 ws (w.heap.size + 1) a (.slice A6 a.dims.length c6) (.slice A7 a.fl.length c7) (.slice A8 a.i32.length c8) (.slice A9 a.i64s.length c9) v (a.dims.take q)) (fun _ j _ => a.dims.length - (intOf j).toNat)
          case atStart => exact ⟨0, by omega, rfl, _, HVt.out⟩
          case round =>
            obtain ⟨q, hq, rfl, v, h2⟩ := hrel
            have H2 := Lib.hid h2
            have z2 := h2.only.size
            clear h2
            have c1 : wr.cell? ⟨w.heap.size + 1, 1, none⟩ = some v := cell_of_row _ _ 1 _ 47 (0, 0) H2.out.t
            by_cases hlq : q < a.dims.length
            · obtain ⟨bq, oq, rfl, hbq, hcq⟩ := (own_ints H2.out.four.o1 rfl).get hlq
              have htl : (a.dims.take q).length = q := by rw [List.length_take]; omega
              go_wp2_with (at_builtin; refine wpList_append_d1 wr _ rfl (.tmp 70) (.tmp 72) 44 rfl i3 _ rfl Try.underlying44 hi3 hz30 hz31 hz32 w1.heap.size v _ rfl H2.out.own wr.heap.size rfl rfl (by rw [htl]; omega) (by omega) ?_; intro v' w4 ho4 hg4 hf4; obtain ⟨Aw, mw, cw, hvw⟩ : ∃ A m c, v' = .slice A m c := (by obtain ⟨A, c, e⟩ := OwnL.form ho4; exact ⟨A, _, c, e⟩); subst hvw; have ht4 := H2.out.t_grown hg4; have q1 : w4.cell? ⟨w.heap.size + 1, 1, none⟩ = some v := cell_of_row _ _ 1 _ 47 (0, 0) ht4; have q2 : w4.frozen? ⟨w.heap.size + 1, 1, none⟩ = false := by simp [World.frozen?, ht4])
              go_roundw
              case rel =>
                refine ⟨q + 1, by omega, by go_num, ?_⟩
                rw [take_ix a.dims q hlq]
                exact ⟨_, H2.out.more hg4 ho4 hf4⟩
              case measure => simp [intOf]; omega
            · obtain rfl : q = a.dims.length := by omega
              rw [List.take_length] at H2
              obtain ⟨Av, cv, hv⟩ := OwnL.form H2.out.own
              subst hv
              have Hbs := Lib.hid (show Below w.heap.size w wr from Hb1.out.trans (H2.out.only.below (by omega) (by omega)))
              have hcx : CountIs a.dims (if errC a.dims = 0 then prod a.dims else 0) (errC a.dims) := ⟨rfl, rfl⟩
              have C := count_any wr _ Av a.dims.length cv a.dims (own_ints H2.out.own rfl) _ _ hcx
              by_cases he0 : errC a.dims = 0
              · rw [if_pos he0, he0] at C
                have HC := Lib.hid C
                have He0 := Lib.hid he0
                clear C hcx he0
                go_wp2_with fail
                refine HC.out.mono ?_
                rintro e w3 ⟨rfl, rfl⟩
                go_wp2_with fail
                refine (must_yes _ _).mono ?_
                rintro e w3 ⟨rfl, rfl⟩
                clear c1
                have c0 : wr.cell? ⟨w.heap.size + 1, 0, none⟩ = some (.int .i64 a.typ) := cell_of_row _ _ 0 _ 47 (0, 0) H2.out.t
                have c1 : wr.cell? ⟨w.heap.size + 1, 1, none⟩ = some (.slice Av a.dims.length cv) := cell_of_row _ _ 1 _ 47 (0, 0) H2.out.t
                have c2 : wr.cell? ⟨w.heap.size + 1, 2, none⟩ = some (.slice none 0 0) := cell_of_row _ _ 2 _ 47 (0, 0) H2.out.t
                have f2 : wr.frozen? ⟨w.heap.size + 1, 2, none⟩ = false := by simp [World.frozen?, H2.out.t]
                by_cases hre : a.raw.toList.isEmpty = false
                · have BY := bytes_any a.typ a.raw wr hraw
                  have HBY := Lib.hid BY
                  clear BY
                  go_wp2_with fail
                  refine HBY.out.mono ?_
                  rintro e w3 ⟨hb, ⟨m, vm, hm, rfl, ho⟩ | ⟨hm, rfl⟩⟩
                  · have Htd := Lib.hid (show tData a = some m from by simp [tData, hre, hm])
                    have hgl := H2.out.lt
                    have gl1 : w.heap.size + 1 < wr.heap.size := by omega
                    have ht3 := (hb.block _ gl1).trans H2.out.t
                    have HO3 := Lib.hid (H2.out.own.below hb)
                    have hob : OwnI w3 w1.heap.size vm m := OwnL.lower ho (by omega)
                    obtain ⟨Am, cm, hvm⟩ := OwnL.form hob
                    subst hvm
                    have HM3 := Lib.hid hob
                    have hg30 : w3.heap[w.heap.size]? = some (.cells #[.string ⟨#[]⟩, .int .i64 0, .slice none 0 0, .slice none 0 0] 69 (0, 0)) := (hb.block _ (by omega)).trans ((H2.out.only.block _ (by omega) (by omega)).trans HG1.out)
                    have hb30 : Below w.heap.size w w3 := Hbs.out.trans (hb.mono Hbs.out.size)
                    have hg3 : (w3.setCell ⟨w.heap.size + 1, 2, none⟩ (.slice Am m.length cm)).heap[w.heap.size]? = some (.cells #[.string ⟨#[]⟩, .int .i64 0, .slice none 0 0, .slice none 0 0] 69 (0, 0)) := (Below.heap_setCell _ _ _ _ (by dsimp only; omega)).trans hg30
                    have hb3 : Below w.heap.size w (w3.setCell ⟨w.heap.size + 1, 2, none⟩ (.slice Am m.length cm)) := hb30.setCell (by dsimp only; omega) _
                    have k0 : w3.cell? ⟨w.heap.size + 1, 0, none⟩ = some (.int .i64 a.typ) := cell_of_row _ _ 0 _ 47 (0, 0) ht3
                    have k1 : w3.cell? ⟨w.heap.size + 1, 1, none⟩ = some (.slice Av a.dims.length cv) := cell_of_row _ _ 1 _ 47 (0, 0) ht3
                    have k2 : w3.cell? ⟨w.heap.size + 1, 2, none⟩ = some (.slice none 0 0) := cell_of_row _ _ 2 _ 47 (0, 0) ht3
                    have kf : w3.frozen? ⟨w.heap.size + 1, 2, none⟩ = false := by simp [World.frozen?, ht3]
                    have HT3 := Lib.hid ht3
                    clear hob hg30 hb30 ho hb hm ht3
                    go_wp2_with fail
                    have ht3 := HT3.out
                    have t3 : (w3.setCell ⟨w.heap.size + 1, 2, none⟩ (.slice Am m.length cm)).heap[w.heap.size + 1]? = some (.cells #[.int .i64 a.typ, .slice Av a.dims.length cv, .slice Am m.length cm] 47 (0, 0)) := by have := heap_setCell_same w3 (w.heap.size + 1) 2 _ 47 (.slice Am m.length cm) ht3; simpa using this
                    have hd := own_ints (n := a.dims.length) (HO3.out.set_far (a := ⟨w.heap.size + 1, 2, none⟩) (by exact H2.out.lt) (.slice Am m.length cm)) rfl
                    have he := own_ints (n := m.length) (HM3.out.set_far (a := ⟨w.heap.size + 1, 2, none⟩) (by exact H2.out.lt) (.slice Am m.length cm)) rfl
                    have HDo := Lib.hid (HO3.out.set_far (a := ⟨w.heap.size + 1, 2, none⟩) (by exact H2.out.lt) (.slice Am m.length cm))
                    have HEo := Lib.hid (HM3.out.set_far (a := ⟨w.heap.size + 1, 2, none⟩) (by exact H2.out.lt) (.slice Am m.length cm))
                    generalize w3.setCell ⟨w.heap.size + 1, 2, none⟩ (.slice Am m.length cm) = W3 at t3 hd he HDo HEo hb3 hg3 ⊢
                    have HK := Lib.hid (check_any ⟨a.typ, a.dims, m⟩ W3 _ Av Am a.dims.length cv m.length cm hd he (Nat.le_refl _))
                    have T3 := Lib.hid t3
                    have HB3 := Lib.hid hb3
                    have HG3 := Lib.hid hg3
                    clear t3 hd he hb3 hg3
                    refine HK.out.mono ?_
                    rintro e w4 ⟨rfl, hb4⟩
                    have z3 := hb4.size
                    have zw := HB3.out.size
                    have gl3 : w.heap.size + 1 < W3.heap.size := (Array.getElem?_eq_some_iff.1 T3.out).1
                    have t4 := (hb4.block _ gl3).trans T3.out
                    have g4 := (hb4.block _ (by omega)).trans HG3.out
                    have HD4 := Lib.hid (HDo.out.below hb4)
                    have HE4 := Lib.hid (HEo.out.below hb4)
                    have HB4 := Lib.hid (HB3.out.trans (hb4.mono zw))
                    have T4 := Lib.hid t4
                    have G4 := Lib.hid g4
                    clear hb4 t4 g4 HDo HEo
                    by_cases hk0 : tchk ⟨a.typ, a.dims, m⟩ = 0
                    · rw [hk0]
                      by_cases hnm : a.name.size ≤ 100
                      · have hyes : tensorE s = .ok ⟨a.name, ⟨a.typ, a.dims, m⟩⟩ := by rw [Hten.out]; simp [tEnd, Ht.out, He0.out, Htd.out, hk0]; omega
                        have Hyes := Lib.hid hyes
                        have hdn : decide ((a.name.size : Int) ≤ 100) = true := by simp; omega
                        clear hk0 hyes
                        go_wp2_with fail
                        refine (must_yes _ _).mono ?_
                        rintro e w5 ⟨rfl, rfl⟩
                        go_wp2_with fail
                        refine (must_yes _ _).mono ?_
                        rintro e w5 ⟨rfl, rfl⟩
                        obtain ⟨p0, p1, p2⟩ : w4.cell? ⟨w.heap.size + 1, 0, none⟩ = some (.int .i64 a.typ) ∧ w4.cell? ⟨w.heap.size + 1, 1, none⟩ = some (.slice Av a.dims.length cv) ∧ w4.cell? ⟨w.heap.size + 1, 2, none⟩ = some (.slice Am m.length cm) := ⟨cell_of_row _ _ 0 _ 47 (0, 0) T4.out, cell_of_row _ _ 1 _ 47 (0, 0) T4.out, cell_of_row _ _ 2 _ 47 (0, 0) T4.out⟩
                        obtain ⟨r0, r1, r2, r3⟩ : w4.cell? ⟨w.heap.size, 0, none⟩ = some (.string ⟨#[]⟩) ∧ w4.cell? ⟨w.heap.size, 1, none⟩ = some (.int .i64 0) ∧ w4.cell? ⟨w.heap.size, 2, none⟩ = some (.slice none 0 0) ∧ w4.cell? ⟨w.heap.size, 3, none⟩ = some (.slice none 0 0) := ⟨cell_of_row _ _ 0 _ 69 (0, 0) G4.out, cell_of_row _ _ 1 _ 69 (0, 0) G4.out, cell_of_row _ _ 2 _ 69 (0, 0) G4.out, cell_of_row _ _ 3 _ 69 (0, 0) G4.out⟩
                        have rf : ∀ i, w4.frozen? ⟨w.heap.size, i, none⟩ = false := fun i => by simp [World.frozen?, G4.out]
                        have rf0 := rf 0
                        have rf1 := rf 1
                        have rf2 := rf 2
                        have rf3 := rf 3
                        clear rf
                        go_wp2
                        obtain ⟨G5, B5, R5⟩ := tensor_fin HD4.out HE4.out G4.out HB4.out (by omega) a.name a.typ
                        refine bodyPost_ret (results_cell_row rfl _ _ w.heap.size 69 _ (0, 0) _ rfl G5 Try.underlying69 rfl (by kernel_rfl)) rfl ?_
                        exact ⟨B5, .inl ⟨_, _, Hyes.out, rfl, R5⟩⟩
                      · have hno : tensorE s = .error 6 := by rw [Hten.out]; simp [tEnd, Ht.out, He0.out, Htd.out, hk0]; omega
                        have hdn : decide ((a.name.size : Int) ≤ 100) = false := by simp; omega
                        have Hno := Lib.hid hno
                        clear hk0 hno
                        go_wp2_with fail
                        refine (must_yes _ _).mono ?_
                        rintro e w5 ⟨rfl, rfl⟩
                        go_wp2_with fail
                        refine (must_no _ _).mono ?_
                        rintro e w5 ⟨rfl, rfl⟩
                        exact ⟨rfl, tensor_no HB4.out Hno.out⟩
                    · have hno : tensorE s = .error 4 := by rw [Hten.out]; simp [tEnd, Ht.out, He0.out, Htd.out, hk0]
                      have hne : (tchk ⟨a.typ, a.dims, m⟩ == 0) = false := by simpa using hk0
                      have Hno := Lib.hid hno
                      clear hk0 hno
                      go_wp2_with fail
                      refine (must_no _ _).mono ?_
                      rintro e w5 ⟨rfl, rfl⟩
                      exact ⟨rfl, tensor_no HB4.out Hno.out⟩
                  · have hno : tensorE s = .error 4 := by rw [Hten.out]; simp [tEnd, Ht.out, He0.out, tData, hre, hm]
                    exact ⟨rfl, tensor_no (Hbs.out.trans (hb.mono Hbs.out.size)) hno⟩
                · have hre2 : a.raw.toList.isEmpty = true := by simpa using hre
                  by_cases h1 : a.typ = 1
                  · skip
                    have he1 : (a.typ == 1) = true := by simpa using h1
                    have Htd := Lib.hid (show tData a = some a.fl from by simp [tData, hre, h1])
                    clear h1
                    go_wp2_with fail
                    have hgl := H2.out.lt
                    have hb3 : Below w.heap.size w (wr.setCell ⟨w.heap.size + 1, 2, none⟩ (.slice A7 a.fl.length c7)) := Hbs.out.setCell (by dsimp only; omega) _
                    have hg3 : (wr.setCell ⟨w.heap.size + 1, 2, none⟩ (.slice A7 a.fl.length c7)).heap[w.heap.size]? = some (.cells #[.string ⟨#[]⟩, .int .i64 0, .slice none 0 0, .slice none 0 0] 69 (0, 0)) := (Below.heap_setCell _ _ _ _ (by dsimp only; omega)).trans ((H2.out.only.block _ (by omega) (by omega)).trans HG1.out)
                    have t3 : (wr.setCell ⟨w.heap.size + 1, 2, none⟩ (.slice A7 a.fl.length c7)).heap[w.heap.size + 1]? = some (.cells #[.int .i64 a.typ, .slice Av a.dims.length cv, .slice A7 a.fl.length c7] 47 (0, 0)) := by have := heap_setCell_same wr (w.heap.size + 1) 2 _ 47 (.slice A7 a.fl.length c7) H2.out.t; simpa using this
                    have hd := own_ints (n := a.dims.length) (H2.out.own.set_far (a := ⟨w.heap.size + 1, 2, none⟩) (by exact H2.out.lt) (.slice A7 a.fl.length c7)) rfl
                    have he := own_ints (n := a.fl.length) (H2.out.four.o2.set_far (a := ⟨w.heap.size + 1, 2, none⟩) (by exact H2.out.lt) (.slice A7 a.fl.length c7)) rfl
                    have HDo := Lib.hid (H2.out.own.set_far (a := ⟨w.heap.size + 1, 2, none⟩) (by exact H2.out.lt) (.slice A7 a.fl.length c7))
                    have HEo := Lib.hid (H2.out.four.o2.set_far (a := ⟨w.heap.size + 1, 2, none⟩) (by exact H2.out.lt) (.slice A7 a.fl.length c7))
                    generalize wr.setCell ⟨w.heap.size + 1, 2, none⟩ (.slice A7 a.fl.length c7) = W3 at t3 hd he HDo HEo hb3 hg3 ⊢
                    have HK := Lib.hid (check_any ⟨a.typ, a.dims, a.fl⟩ W3 _ Av A7 a.dims.length cv a.fl.length c7 hd he (Nat.le_refl _))
                    have T3 := Lib.hid t3
                    have HB3 := Lib.hid hb3
                    have HG3 := Lib.hid hg3
                    clear t3 hd he hb3 hg3
                    refine HK.out.mono ?_
                    rintro e w4 ⟨rfl, hb4⟩
                    have z3 := hb4.size
                    have zw := HB3.out.size
                    have gl3 : w.heap.size + 1 < W3.heap.size := (Array.getElem?_eq_some_iff.1 T3.out).1
                    have t4 := (hb4.block _ gl3).trans T3.out
                    have g4 := (hb4.block _ (by omega)).trans HG3.out
                    have HD4 := Lib.hid (HDo.out.below hb4)
                    have HE4 := Lib.hid (HEo.out.below hb4)
                    have HB4 := Lib.hid (HB3.out.trans (hb4.mono zw))
                    have T4 := Lib.hid t4
                    have G4 := Lib.hid g4
                    clear hb4 t4 g4 HDo HEo
                    by_cases hk0 : tchk ⟨a.typ, a.dims, a.fl⟩ = 0
                    · rw [hk0]
                      by_cases hnm : a.name.size ≤ 100
                      · have hyes : tensorE s = .ok ⟨a.name, ⟨a.typ, a.dims, a.fl⟩⟩ := by rw [Hten.out]; simp [tEnd, Ht.out, He0.out, Htd.out, hk0]; omega
                        have Hyes := Lib.hid hyes
                        have hdn : decide ((a.name.size : Int) ≤ 100) = true := by simp; omega
                        clear hk0 hyes
                        go_wp2_with fail
                        refine (must_yes _ _).mono ?_
                        rintro e w5 ⟨rfl, rfl⟩
                        go_wp2_with fail
                        refine (must_yes _ _).mono ?_
                        rintro e w5 ⟨rfl, rfl⟩
                        obtain ⟨p0, p1, p2⟩ : w4.cell? ⟨w.heap.size + 1, 0, none⟩ = some (.int .i64 a.typ) ∧ w4.cell? ⟨w.heap.size + 1, 1, none⟩ = some (.slice Av a.dims.length cv) ∧ w4.cell? ⟨w.heap.size + 1, 2, none⟩ = some (.slice A7 a.fl.length c7) := ⟨cell_of_row _ _ 0 _ 47 (0, 0) T4.out, cell_of_row _ _ 1 _ 47 (0, 0) T4.out, cell_of_row _ _ 2 _ 47 (0, 0) T4.out⟩
                        obtain ⟨r0, r1, r2, r3⟩ : w4.cell? ⟨w.heap.size, 0, none⟩ = some (.string ⟨#[]⟩) ∧ w4.cell? ⟨w.heap.size, 1, none⟩ = some (.int .i64 0) ∧ w4.cell? ⟨w.heap.size, 2, none⟩ = some (.slice none 0 0) ∧ w4.cell? ⟨w.heap.size, 3, none⟩ = some (.slice none 0 0) := ⟨cell_of_row _ _ 0 _ 69 (0, 0) G4.out, cell_of_row _ _ 1 _ 69 (0, 0) G4.out, cell_of_row _ _ 2 _ 69 (0, 0) G4.out, cell_of_row _ _ 3 _ 69 (0, 0) G4.out⟩
                        have rf : ∀ i, w4.frozen? ⟨w.heap.size, i, none⟩ = false := fun i => by simp [World.frozen?, G4.out]
                        have rf0 := rf 0
                        have rf1 := rf 1
                        have rf2 := rf 2
                        have rf3 := rf 3
                        clear rf
                        go_wp2
                        obtain ⟨G5, B5, R5⟩ := tensor_fin HD4.out HE4.out G4.out HB4.out (by omega) a.name a.typ
                        refine bodyPost_ret (results_cell_row rfl _ _ w.heap.size 69 _ (0, 0) _ rfl G5 Try.underlying69 rfl (by kernel_rfl)) rfl ?_
                        exact ⟨B5, .inl ⟨_, _, Hyes.out, rfl, R5⟩⟩
                      · have hno : tensorE s = .error 6 := by rw [Hten.out]; simp [tEnd, Ht.out, He0.out, Htd.out, hk0]; omega
                        have hdn : decide ((a.name.size : Int) ≤ 100) = false := by simp; omega
                        have Hno := Lib.hid hno
                        clear hk0 hno
                        go_wp2_with fail
                        refine (must_yes _ _).mono ?_
                        rintro e w5 ⟨rfl, rfl⟩
                        go_wp2_with fail
                        refine (must_no _ _).mono ?_
                        rintro e w5 ⟨rfl, rfl⟩
                        exact ⟨rfl, tensor_no HB4.out Hno.out⟩
                    · have hno : tensorE s = .error 4 := by rw [Hten.out]; simp [tEnd, Ht.out, He0.out, Htd.out, hk0]
                      have hne : (tchk ⟨a.typ, a.dims, a.fl⟩ == 0) = false := by simpa using hk0
                      have Hno := Lib.hid hno
                      clear hk0 hno
                      go_wp2_with fail
                      refine (must_no _ _).mono ?_
                      rintro e w5 ⟨rfl, rfl⟩
                      exact ⟨rfl, tensor_no HB4.out Hno.out⟩
                  · have he1 : (a.typ == 1) = false := by simpa using h1
                    by_cases h7 : a.typ = 7
                    · skip
                      have he7 : (a.typ == 7) = true := by simpa using h7
                      have Htd := Lib.hid (show tData a = some a.i64s from by simp [tData, hre, h7])
                      clear h7
                      go_wp2_with fail
                      have hgl := H2.out.lt
                      have hb3 : Below w.heap.size w (wr.setCell ⟨w.heap.size + 1, 2, none⟩ (.slice A9 a.i64s.length c9)) := Hbs.out.setCell (by dsimp only; omega) _
                      have hg3 : (wr.setCell ⟨w.heap.size + 1, 2, none⟩ (.slice A9 a.i64s.length c9)).heap[w.heap.size]? = some (.cells #[.string ⟨#[]⟩, .int .i64 0, .slice none 0 0, .slice none 0 0] 69 (0, 0)) := (Below.heap_setCell _ _ _ _ (by dsimp only; omega)).trans ((H2.out.only.block _ (by omega) (by omega)).trans HG1.out)
                      have t3 : (wr.setCell ⟨w.heap.size + 1, 2, none⟩ (.slice A9 a.i64s.length c9)).heap[w.heap.size + 1]? = some (.cells #[.int .i64 a.typ, .slice Av a.dims.length cv, .slice A9 a.i64s.length c9] 47 (0, 0)) := by have := heap_setCell_same wr (w.heap.size + 1) 2 _ 47 (.slice A9 a.i64s.length c9) H2.out.t; simpa using this
                      have hd := own_ints (n := a.dims.length) (H2.out.own.set_far (a := ⟨w.heap.size + 1, 2, none⟩) (by exact H2.out.lt) (.slice A9 a.i64s.length c9)) rfl
                      have he := own_ints (n := a.i64s.length) (H2.out.four.o4.set_far (a := ⟨w.heap.size + 1, 2, none⟩) (by exact H2.out.lt) (.slice A9 a.i64s.length c9)) rfl
                      have HDo := Lib.hid (H2.out.own.set_far (a := ⟨w.heap.size + 1, 2, none⟩) (by exact H2.out.lt) (.slice A9 a.i64s.length c9))
                      have HEo := Lib.hid (H2.out.four.o4.set_far (a := ⟨w.heap.size + 1, 2, none⟩) (by exact H2.out.lt) (.slice A9 a.i64s.length c9))
                      generalize wr.setCell ⟨w.heap.size + 1, 2, none⟩ (.slice A9 a.i64s.length c9) = W3 at t3 hd he HDo HEo hb3 hg3 ⊢
                      have HK := Lib.hid (check_any ⟨a.typ, a.dims, a.i64s⟩ W3 _ Av A9 a.dims.length cv a.i64s.length c9 hd he (Nat.le_refl _))
                      have T3 := Lib.hid t3
                      have HB3 := Lib.hid hb3
                      have HG3 := Lib.hid hg3
                      clear t3 hd he hb3 hg3
                      refine HK.out.mono ?_
                      rintro e w4 ⟨rfl, hb4⟩
                      have z3 := hb4.size
                      have zw := HB3.out.size
                      have gl3 : w.heap.size + 1 < W3.heap.size := (Array.getElem?_eq_some_iff.1 T3.out).1
                      have t4 := (hb4.block _ gl3).trans T3.out
                      have g4 := (hb4.block _ (by omega)).trans HG3.out
                      have HD4 := Lib.hid (HDo.out.below hb4)
                      have HE4 := Lib.hid (HEo.out.below hb4)
                      have HB4 := Lib.hid (HB3.out.trans (hb4.mono zw))
                      have T4 := Lib.hid t4
                      have G4 := Lib.hid g4
                      clear hb4 t4 g4 HDo HEo
                      by_cases hk0 : tchk ⟨a.typ, a.dims, a.i64s⟩ = 0
                      · rw [hk0]
                        by_cases hnm : a.name.size ≤ 100
                        · have hyes : tensorE s = .ok ⟨a.name, ⟨a.typ, a.dims, a.i64s⟩⟩ := by rw [Hten.out]; simp [tEnd, Ht.out, He0.out, Htd.out, hk0]; omega
                          have Hyes := Lib.hid hyes
                          have hdn : decide ((a.name.size : Int) ≤ 100) = true := by simp; omega
                          clear hk0 hyes
                          go_wp2_with fail
                          refine (must_yes _ _).mono ?_
                          rintro e w5 ⟨rfl, rfl⟩
                          go_wp2_with fail
                          refine (must_yes _ _).mono ?_
                          rintro e w5 ⟨rfl, rfl⟩
                          obtain ⟨p0, p1, p2⟩ : w4.cell? ⟨w.heap.size + 1, 0, none⟩ = some (.int .i64 a.typ) ∧ w4.cell? ⟨w.heap.size + 1, 1, none⟩ = some (.slice Av a.dims.length cv) ∧ w4.cell? ⟨w.heap.size + 1, 2, none⟩ = some (.slice A9 a.i64s.length c9) := ⟨cell_of_row _ _ 0 _ 47 (0, 0) T4.out, cell_of_row _ _ 1 _ 47 (0, 0) T4.out, cell_of_row _ _ 2 _ 47 (0, 0) T4.out⟩
                          obtain ⟨r0, r1, r2, r3⟩ : w4.cell? ⟨w.heap.size, 0, none⟩ = some (.string ⟨#[]⟩) ∧ w4.cell? ⟨w.heap.size, 1, none⟩ = some (.int .i64 0) ∧ w4.cell? ⟨w.heap.size, 2, none⟩ = some (.slice none 0 0) ∧ w4.cell? ⟨w.heap.size, 3, none⟩ = some (.slice none 0 0) := ⟨cell_of_row _ _ 0 _ 69 (0, 0) G4.out, cell_of_row _ _ 1 _ 69 (0, 0) G4.out, cell_of_row _ _ 2 _ 69 (0, 0) G4.out, cell_of_row _ _ 3 _ 69 (0, 0) G4.out⟩
                          have rf : ∀ i, w4.frozen? ⟨w.heap.size, i, none⟩ = false := fun i => by simp [World.frozen?, G4.out]
                          have rf0 := rf 0
                          have rf1 := rf 1
                          have rf2 := rf 2
                          have rf3 := rf 3
                          clear rf
                          go_wp2
                          obtain ⟨G5, B5, R5⟩ := tensor_fin HD4.out HE4.out G4.out HB4.out (by omega) a.name a.typ
                          refine bodyPost_ret (results_cell_row rfl _ _ w.heap.size 69 _ (0, 0) _ rfl G5 Try.underlying69 rfl (by kernel_rfl)) rfl ?_
                          exact ⟨B5, .inl ⟨_, _, Hyes.out, rfl, R5⟩⟩
                        · have hno : tensorE s = .error 6 := by rw [Hten.out]; simp [tEnd, Ht.out, He0.out, Htd.out, hk0]; omega
                          have hdn : decide ((a.name.size : Int) ≤ 100) = false := by simp; omega
                          have Hno := Lib.hid hno
                          clear hk0 hno
                          go_wp2_with fail
                          refine (must_yes _ _).mono ?_
                          rintro e w5 ⟨rfl, rfl⟩
                          go_wp2_with fail
                          refine (must_no _ _).mono ?_
                          rintro e w5 ⟨rfl, rfl⟩
                          exact ⟨rfl, tensor_no HB4.out Hno.out⟩
                      · have hno : tensorE s = .error 4 := by rw [Hten.out]; simp [tEnd, Ht.out, He0.out, Htd.out, hk0]
                        have hne : (tchk ⟨a.typ, a.dims, a.i64s⟩ == 0) = false := by simpa using hk0
                        have Hno := Lib.hid hno
                        clear hk0 hno
                        go_wp2_with fail
                        refine (must_no _ _).mono ?_
                        rintro e w5 ⟨rfl, rfl⟩
                        exact ⟨rfl, tensor_no HB4.out Hno.out⟩
                    · skip
                      have he7 : (a.typ == 7) = false := by simpa using h7
                      have Htd := Lib.hid (show tData a = some a.i32 from by simp [tData, hre, h1, h7])
                      go_wp2_with fail
                      have hgl := H2.out.lt
                      have hb3 : Below w.heap.size w (wr.setCell ⟨w.heap.size + 1, 2, none⟩ (.slice A8 a.i32.length c8)) := Hbs.out.setCell (by dsimp only; omega) _
                      have hg3 : (wr.setCell ⟨w.heap.size + 1, 2, none⟩ (.slice A8 a.i32.length c8)).heap[w.heap.size]? = some (.cells #[.string ⟨#[]⟩, .int .i64 0, .slice none 0 0, .slice none 0 0] 69 (0, 0)) := (Below.heap_setCell _ _ _ _ (by dsimp only; omega)).trans ((H2.out.only.block _ (by omega) (by omega)).trans HG1.out)
                      have t3 : (wr.setCell ⟨w.heap.size + 1, 2, none⟩ (.slice A8 a.i32.length c8)).heap[w.heap.size + 1]? = some (.cells #[.int .i64 a.typ, .slice Av a.dims.length cv, .slice A8 a.i32.length c8] 47 (0, 0)) := by have := heap_setCell_same wr (w.heap.size + 1) 2 _ 47 (.slice A8 a.i32.length c8) H2.out.t; simpa using this
                      have hd := own_ints (n := a.dims.length) (H2.out.own.set_far (a := ⟨w.heap.size + 1, 2, none⟩) (by exact H2.out.lt) (.slice A8 a.i32.length c8)) rfl
                      have he := own_ints (n := a.i32.length) (H2.out.four.o3.set_far (a := ⟨w.heap.size + 1, 2, none⟩) (by exact H2.out.lt) (.slice A8 a.i32.length c8)) rfl
                      have HDo := Lib.hid (H2.out.own.set_far (a := ⟨w.heap.size + 1, 2, none⟩) (by exact H2.out.lt) (.slice A8 a.i32.length c8))
                      have HEo := Lib.hid (H2.out.four.o3.set_far (a := ⟨w.heap.size + 1, 2, none⟩) (by exact H2.out.lt) (.slice A8 a.i32.length c8))
                      generalize wr.setCell ⟨w.heap.size + 1, 2, none⟩ (.slice A8 a.i32.length c8) = W3 at t3 hd he HDo HEo hb3 hg3 ⊢
                      have HK := Lib.hid (check_any ⟨a.typ, a.dims, a.i32⟩ W3 _ Av A8 a.dims.length cv a.i32.length c8 hd he (Nat.le_refl _))
                      have T3 := Lib.hid t3
                      have HB3 := Lib.hid hb3
                      have HG3 := Lib.hid hg3
                      clear t3 hd he hb3 hg3
                      refine HK.out.mono ?_
                      rintro e w4 ⟨rfl, hb4⟩
                      have z3 := hb4.size
                      have zw := HB3.out.size
                      have gl3 : w.heap.size + 1 < W3.heap.size := (Array.getElem?_eq_some_iff.1 T3.out).1
                      have t4 := (hb4.block _ gl3).trans T3.out
                      have g4 := (hb4.block _ (by omega)).trans HG3.out
                      have HD4 := Lib.hid (HDo.out.below hb4)
                      have HE4 := Lib.hid (HEo.out.below hb4)
                      have HB4 := Lib.hid (HB3.out.trans (hb4.mono zw))
                      have T4 := Lib.hid t4
                      have G4 := Lib.hid g4
                      clear hb4 t4 g4 HDo HEo
                      by_cases hk0 : tchk ⟨a.typ, a.dims, a.i32⟩ = 0
                      · rw [hk0]
                        by_cases hnm : a.name.size ≤ 100
                        · have hyes : tensorE s = .ok ⟨a.name, ⟨a.typ, a.dims, a.i32⟩⟩ := by rw [Hten.out]; simp [tEnd, Ht.out, He0.out, Htd.out, hk0]; omega
                          have Hyes := Lib.hid hyes
                          have hdn : decide ((a.name.size : Int) ≤ 100) = true := by simp; omega
                          clear hk0 hyes
                          go_wp2_with fail
                          refine (must_yes _ _).mono ?_
                          rintro e w5 ⟨rfl, rfl⟩
                          go_wp2_with fail
                          refine (must_yes _ _).mono ?_
                          rintro e w5 ⟨rfl, rfl⟩
                          obtain ⟨p0, p1, p2⟩ : w4.cell? ⟨w.heap.size + 1, 0, none⟩ = some (.int .i64 a.typ) ∧ w4.cell? ⟨w.heap.size + 1, 1, none⟩ = some (.slice Av a.dims.length cv) ∧ w4.cell? ⟨w.heap.size + 1, 2, none⟩ = some (.slice A8 a.i32.length c8) := ⟨cell_of_row _ _ 0 _ 47 (0, 0) T4.out, cell_of_row _ _ 1 _ 47 (0, 0) T4.out, cell_of_row _ _ 2 _ 47 (0, 0) T4.out⟩
                          obtain ⟨r0, r1, r2, r3⟩ : w4.cell? ⟨w.heap.size, 0, none⟩ = some (.string ⟨#[]⟩) ∧ w4.cell? ⟨w.heap.size, 1, none⟩ = some (.int .i64 0) ∧ w4.cell? ⟨w.heap.size, 2, none⟩ = some (.slice none 0 0) ∧ w4.cell? ⟨w.heap.size, 3, none⟩ = some (.slice none 0 0) := ⟨cell_of_row _ _ 0 _ 69 (0, 0) G4.out, cell_of_row _ _ 1 _ 69 (0, 0) G4.out, cell_of_row _ _ 2 _ 69 (0, 0) G4.out, cell_of_row _ _ 3 _ 69 (0, 0) G4.out⟩
                          have rf : ∀ i, w4.frozen? ⟨w.heap.size, i, none⟩ = false := fun i => by simp [World.frozen?, G4.out]
                          have rf0 := rf 0
                          have rf1 := rf 1
                          have rf2 := rf 2
                          have rf3 := rf 3
                          clear rf
                          go_wp2
                          obtain ⟨G5, B5, R5⟩ := tensor_fin HD4.out HE4.out G4.out HB4.out (by omega) a.name a.typ
                          refine bodyPost_ret (results_cell_row rfl _ _ w.heap.size 69 _ (0, 0) _ rfl G5 Try.underlying69 rfl (by kernel_rfl)) rfl ?_
                          exact ⟨B5, .inl ⟨_, _, Hyes.out, rfl, R5⟩⟩
                        · have hno : tensorE s = .error 6 := by rw [Hten.out]; simp [tEnd, Ht.out, He0.out, Htd.out, hk0]; omega
                          have hdn : decide ((a.name.size : Int) ≤ 100) = false := by simp; omega
                          have Hno := Lib.hid hno
                          clear hk0 hno
                          go_wp2_with fail
                          refine (must_yes _ _).mono ?_
                          rintro e w5 ⟨rfl, rfl⟩
                          go_wp2_with fail
                          refine (must_no _ _).mono ?_
                          rintro e w5 ⟨rfl, rfl⟩
                          exact ⟨rfl, tensor_no HB4.out Hno.out⟩
                      · have hno : tensorE s = .error 4 := by rw [Hten.out]; simp [tEnd, Ht.out, He0.out, Htd.out, hk0]
                        have hne : (tchk ⟨a.typ, a.dims, a.i32⟩ == 0) = false := by simpa using hk0
                        have Hno := Lib.hid hno
                        clear hk0 hno
                        go_wp2_with fail
                        refine (must_no _ _).mono ?_
                        rintro e w5 ⟨rfl, rfl⟩
                        exact ⟨rfl, tensor_no HB4.out Hno.out⟩
              · have hno : tensorE s = .error (errC a.dims) := by rw [Hten.out]; simp [tEnd, Ht.out, he0]
                have hne : (errC a.dims == 0) = false := by simpa using he0
                rw [if_neg he0] at C
                have HC := Lib.hid C
                have Hno := Lib.hid hno
                clear C hcx he0 hno
                go_wp2_with fail
                refine HC.out.mono ?_
                rintro e w3 ⟨rfl, rfl⟩
                go_wp2_with fail
                refine (must_no _ _).mono ?_
                rintro e w3 ⟨rfl, rfl⟩
                exact ⟨rfl, tensor_no Hbs.out Hno.out⟩
  · have hno : tensorE s = .error err := by unfold tensorE; rw [he]
    have Hb1 := Lib.hid ((((Below.refl w.heap.size w).alloc (Nat.le_refl _) (.cells #[.string ⟨#[]⟩, .int .i64 0, .slice none 0 0, .slice none 0 0] 69)).alloc (by simp) (.cells #[.int .i64 0, .slice none 0 0, .slice none 0 0] 47)).trans (hb1.mono (by simp; omega)))
    exact ⟨rfl, tensor_no Hb1.out hno⟩
end Go.Proofs.Ytkcnpnnflbibiaa
