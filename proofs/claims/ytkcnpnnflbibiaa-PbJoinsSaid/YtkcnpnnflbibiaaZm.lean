/- The walks: one of a shape's dimensions read. The walks: the joined bytes of a message's field. The walks: the joined bytes of a message's field, for each inner function. What the reader of a value gathers: plain. -/
import Derived.Test.YtkcnpnnflbibiaaZl
set_option linter.unusedVariables false
/- The walks: one of a shape's dimensions read. -/
namespace Go.Proofs.Ytkcnpnnflbibiaa
open Go.RowKit

structure DAcc where
  d : Int
  had : Bool
  named : Bool
def DAcc.none : DAcc := ⟨0, false, false⟩
def dStep (a : DAcc) (f : Fd) : Except Int DAcc :=
  if f.num = 1 then (if f.kind = 0 then .ok { a with d := i64 f.u, had := true } else .error 3)
  else if f.num = 2 then (if f.kind = 2 then .ok { a with named := true } else .error 3)
  else .ok a
def dimE (s : ByteArray) : Except Int Int :=
  match fldsE s with
  | .error e => .error e
  | .ok l => match runF dStep .none l with
    | .error e => .error e
    | .ok a => if a.had && !a.named then .ok a.d else .error 5
/-- What dim leaves. -/
def DimIs (r : Except Int Int) (w : World) (e : Ending) (w' : World) : Prop := Below w.heap.size w w' ∧ ((∃ d, r = .ok d ∧ e = .returned (.int .i64 d)) ∨ (∃ err, r = .error err ∧ e = .panicked (refu err)))
theorem dim_no {r : Except Int Int} {w w' : World} {err : Int} (hb : Below w.heap.size w w') (h : r = .error err) : DimIs r w (.panicked (refu err)) w' := ⟨hb, .inr ⟨err, h, rfl⟩⟩
theorem dimE_bad {s : ByteArray} {l : List Fd} (hl : fldsE s = .ok l) {k : Nat} {f : Fd} (hf : l[k]? = some f) {a : DAcc} (ha : runF dStep .none (l.take k) = .ok a) {e : Int} (hs : dStep a f = .error e) : dimE s = .error e := by
  unfold dimE
  rw [hl]
  simp only []
  rw [runF_bad dStep .none l k f hf a ha e hs]

set_option maxRecDepth 100000 in
set_option maxHeartbeats 1600000 in
theorem dim_any (s : ByteArray) (w : World) (hs : s.size ≤ 140737488351232) : Calls Try.prog 79 #[.string s] w (DimIs (dimE s) w) := by
  have HT := Lib.hid (fields_any s w hs)
  go_enter Try.func79, Try.ntmps79
  go_wp2_with fail
  refine HT.out.mono ?_
  rintro e w1 ⟨hb1, ⟨l, A, c, hl, rfl, hof⟩ | ⟨err, he, rfl⟩⟩
  · have z1 := hb1.size
    have Hb1 := Lib.hid hb1
    have hn : l.length ≤ 9223372036854775807 := hof.2
    have hfb : 0 < l.length → ∃ g, A = some ⟨g, 0, none⟩ ∧ w.heap.size ≤ g ∧ g < w1.heap.size := fun hn => by
      obtain ⟨g, cap, e, h1, h2⟩ := World.ownsRow.form hof.1 hn
      simp only [Value.slice.injEq] at e
      exact ⟨g, e.1, h1, h2⟩
    have Hfb := Lib.hid hfb
    have Hfl := Lib.hid (hof.flds rfl)
    have HL := Lib.hid hl
    clear hof hfb hb1 hl HT
    go_wp2_with fail
    go_loopw [3, 4, 5, 11] (fun v3 v4 v5 i wr => ∃ k : Nat, k ≤ l.length ∧ i = .int .i64 k ∧ ∃ a : DAcc, runF dStep .none (l.take k) = .ok a ∧ v3 = .int .i64 a.d ∧ v4 = .bool a.had ∧ v5 = .bool a.named ∧ Below w1.heap.size w1 wr) (fun _ _ _ i _ => l.length - (intOf i).toNat)
    case atStart => exact ⟨0, by omega, rfl, .none, rfl, rfl, rfl, rfl, Below.refl _ _⟩
    case round =>
      obtain ⟨k, hk, rfl, a, hrun, rfl, rfl, rfl, hb⟩ := hrel
      have Hrun := Lib.hid hrun
      have Hb := Lib.hid hb
      have zr := hb.size
      have Hbw := Lib.hid (Hb1.out.trans (hb.mono z1))
      clear hrun hb
      by_cases hlt : k < l.length
      · obtain ⟨f, hf⟩ : ∃ f, l[k]? = some f := ⟨_, List.getElem?_eq_getElem hlt⟩
        obtain ⟨g, rfl, hg1, hg2⟩ := Hfb.out (by omega)
        obtain ⟨b1, o1, e1, hb1, hc1⟩ := Hfl.out.at_ (by omega)
        simp only [Option.some.injEq, Addr.mk.injEq, and_true] at e1
        obtain ⟨rfl, rfl⟩ := e1
        obtain ⟨x0, x1, x2, x3⟩ := hc1 k f hf
        have hkp : ∀ i, wr.cell? ⟨g, i, none⟩ = w1.cell? ⟨g, i, none⟩ := fun i => Hb.out.cell (p := ⟨g, i, none⟩) hg2
        rw [Nat.mul_comm 4 k, Nat.zero_add, ← hkp] at x0 x1 x2 x3
        have HE := Lib.hid (fun e => dimE_bad (s := s) (e := e) HL.out hf Hrun.out)
        have HR := Lib.hid (runF_take dStep .none l k f hf a Hrun.out)
        clear hc1 hf hkp
        obtain ⟨num, kind, u, b⟩ := f
        dsimp only at x0 x1 x2 x3
        have Hba := Lib.hid (Hb.out.alloc zr (.cells #[.int .i64 num, .int .i64 kind, .int .u64 u, .string b] 24))
        have Hbwa := Lib.hid (Hbw.out.alloc (by omega) (.cells #[.int .i64 num, .int .i64 kind, .int .u64 u, .string b] 24))
        by_cases h1 : num = 1
        · subst h1
          by_cases hkd : kind = 0
          · subst hkd
            have Hst := Lib.hid (show dStep a ⟨1, 0, u, b⟩ = .ok { a with d := i64 u, had := true } by simp [dStep])
            have HC := Lib.hid (fun w => varint_yes 1 u b w)
            unfold Fd.val at HC
            go_wp2_with fail
            refine (HC.out _).mono ?_
            rintro e w3 ⟨rfl, hb3⟩
            have Hb3 := Lib.hid (Hba.out.trans (hb3.mono (by simp; omega)))
            clear hb3
            go_wp2
            go_roundw
            case rel => exact ⟨k + 1, by omega, by go_num, _, HR.out.trans Hst.out, rfl, rfl, rfl, Hb3.out⟩
            case measure => simp [intOf]; omega
          · have Hst := Lib.hid (show dStep a ⟨1, kind, u, b⟩ = .error 3 by simp [dStep, hkd])
            have HC := Lib.hid (fun w => varint_no 1 kind u b w hkd)
            unfold Fd.val at HC
            go_wp2_with fail
            refine (HC.out _).mono ?_
            rintro e w3 ⟨rfl, hb3⟩
            exact ⟨rfl, dim_no (Hbwa.out.trans (hb3.mono (by simp; omega))) (HE.out 3 Hst.out)⟩
        by_cases h2 : num = 2
        · subst h2
          by_cases hkd : kind = 2
          · subst hkd
            have Hst := Lib.hid (show dStep a ⟨2, 2, u, b⟩ = .ok { a with named := true } by simp [dStep])
            have HC := Lib.hid (fun w => text_yes 2 u b w)
            unfold Fd.val at HC
            go_wp2_with fail
            refine (HC.out _).mono ?_
            rintro e w3 ⟨rfl, hb3⟩
            have Hb3 := Lib.hid (Hba.out.trans (hb3.mono (by simp; omega)))
            clear hb3
            go_wp2
            go_roundw
            case rel => exact ⟨k + 1, by omega, by go_num, _, HR.out.trans Hst.out, rfl, rfl, rfl, Hb3.out⟩
            case measure => simp [intOf]; omega
          · have Hst := Lib.hid (show dStep a ⟨2, kind, u, b⟩ = .error 3 by simp [dStep, hkd])
            have HC := Lib.hid (fun w => text_no 2 kind u b w hkd)
            unfold Fd.val at HC
            go_wp2_with fail
            refine (HC.out _).mono ?_
            rintro e w3 ⟨rfl, hb3⟩
            exact ⟨rfl, dim_no (Hbwa.out.trans (hb3.mono (by simp; omega))) (HE.out 3 Hst.out)⟩
        have e1 : (num == 1) = false := by simpa using h1
        have e2 : (num == 2) = false := by simpa using h2
        have Hst := Lib.hid (show dStep a ⟨num, kind, u, b⟩ = .ok a by simp [dStep, h1, h2])
        go_wp2
        go_roundw
        case rel => exact ⟨k + 1, by omega, by go_num, a, HR.out.trans Hst.out, rfl, rfl, rfl, Hba.out⟩
        case measure => simp [intOf]; omega
      · obtain rfl : k = l.length := by omega
        have hall : runF dStep .none l = .ok a := by have := Hrun.out; rw [List.take_length] at this; exact this
        have hten : dimE s = if a.had && !a.named then .ok a.d else .error 5 := by unfold dimE; rw [HL.out]; simp only []; rw [hall]
        have Hten := Lib.hid hten
        clear hall hten
        obtain ⟨d, had, named⟩ := a
        cases had <;> cases named
        · go_wp2_with fail
          refine (must_no _ _).mono ?_
          rintro e w3 ⟨rfl, rfl⟩
          exact ⟨rfl, dim_no Hbw.out Hten.out⟩
        · go_wp2_with fail
          refine (must_no _ _).mono ?_
          rintro e w3 ⟨rfl, rfl⟩
          exact ⟨rfl, dim_no Hbw.out Hten.out⟩
        · go_wp2_with fail
          refine (must_yes _ _).mono ?_
          rintro e w3 ⟨rfl, rfl⟩
          go_wp2
          go_ret
          exact ⟨Hbw.out, .inl ⟨d, Hten.out, rfl⟩⟩
        · go_wp2_with fail
          refine (must_no _ _).mono ?_
          rintro e w3 ⟨rfl, rfl⟩
          exact ⟨rfl, dim_no Hbw.out Hten.out⟩
  · exact ⟨rfl, dim_no hb1 (by unfold dimE; rw [he])⟩
end Go.Proofs.Ytkcnpnnflbibiaa

/- The walks: the joined bytes of a message's field. -/
namespace Go.Proofs.Ytkcnpnnflbibiaa
open Go.RowKit

/-- What value's first inner function does with a field. -/
def nameStep (n : ByteArray) (f : Fd) : Except Int ByteArray := if f.num = 1 then (if f.kind = 2 then .ok f.b else .error 3) else .ok n
/-- What its second one does. -/
def typStep (t : Int) (f : Fd) : Except Int Int := if f.num = 1 then (if f.kind = 0 then .ok (i64 f.u) else .error 3) else .ok t
def noStep (t : Unit) (_ : Fd) : Except Int Unit := .ok t
/-- The joined bytes, whether there were any, and what the inner function keeps. -/
def jStep {σ : Type} (g : σ → Fd → Except Int σ) (num : Int) (a : ByteArray × Bool × σ) (f : Fd) : Except Int (ByteArray × Bool × σ) :=
  if f.num = num then (if f.kind = 2 then .ok (a.1 ++ f.b, true, a.2.2) else .error 3)
  else match g a.2.2 f with | .error e => .error e | .ok x => .ok (a.1, a.2.1, x)
def joinE {σ : Type} (g : σ → Fd → Except Int σ) (num : Int) (x : σ) (s : ByteArray) : Except Int (ByteArray × Bool × σ) :=
  match fldsE s with
  | .error e => .error e
  | .ok l => runF (jStep g num) (⟨#[]⟩, false, x) l
theorem joinE_bad {σ : Type} {g : σ → Fd → Except Int σ} {num : Int} {x : σ} {s : ByteArray} {l : List Fd} (hl : fldsE s = .ok l) {k : Nat} {f : Fd} (hf : l[k]? = some f) {a : ByteArray × Bool × σ} (ha : runF (jStep g num) (⟨#[]⟩, false, x) (l.take k) = .ok a) {e : Int} (hs : jStep g num a f = .error e) : joinE g num x s = .error e := by
  unfold joinE
  rw [hl]
  exact runF_bad (jStep g num) _ l k f hf a ha e hs
theorem joinE_all {σ : Type} {g : σ → Fd → Except Int σ} {num : Int} {x : σ} {s : ByteArray} {l : List Fd} (hl : fldsE s = .ok l) {a : ByteArray × Bool × σ} (ha : runF (jStep g num) (⟨#[]⟩, false, x) l = .ok a) : joinE g num x s = .ok a := by
  unfold joinE
  rw [hl]
  exact ha

/-- What value's first inner function leaves. -/
def Nm1Is (r : Except Int ByteArray) (gv : Nat) (x y : Value) (w : World) (e : Ending) (w' : World) : Prop :=
  Only gv w w' ∧ ((∃ n, r = .ok n ∧ e = .returned (.tuple #[]) ∧ w'.heap[gv]? = some (.cells #[.string n, x, y] 81 (0, 0))) ∨ (∃ err, r = .error err ∧ e = .panicked (refu err)))
theorem only_refl' (b : Nat) (w : World) {w' : World} (h : Below w.heap.size w w') : Only b w w' := only_below (Only.refl b w) h
set_option maxHeartbeats 800000 in
theorem name_any (f : Fd) (gv : Nat) (n : ByteArray) (x y : Value) (w : World) (hg : w.heap[gv]? = some (.cells #[.string n, x, y] 81 (0, 0))) : Calls Try.prog 77 #[f.val, .pointer (some ⟨gv, 0, none⟩)] w (Nm1Is (nameStep n f) gv x y w) := by
  have hlt : gv < w.heap.size := (Array.getElem?_eq_some_iff.1 hg).1
  have HG := Lib.hid hg
  clear hg
  obtain ⟨num, kind, u, b⟩ := f
  have hb : Below w.heap.size w (w.alloc (.cells #[.int .i64 num, .int .i64 kind, .int .u64 u, .string b] 24)) := (Below.refl _ _).alloc (Nat.le_refl _) _
  have Hb := Lib.hid hb
  clear hb
  unfold Fd.val
  by_cases h1 : num = 1
  · subst h1
    by_cases h2 : kind = 2
    · subst h2
      have Hst := Lib.hid (show nameStep n ⟨1, 2, u, b⟩ = .ok b by simp [nameStep])
      have HC := Lib.hid (fun w => text_yes 1 u b w)
      unfold Fd.val at HC
      go_enter Try.func77, Try.ntmps77
      go_wp2_with fail
      refine (HC.out _).mono ?_
      rintro e w3 ⟨rfl, hb3⟩
      have hg3 : w3.heap[gv]? = some (.cells #[.string n, x, y] 81 (0, 0)) := (hb3.block gv (by simp; omega)).trans ((Hb.out.block gv hlt).trans HG.out)
      have c0 : w3.cell? ⟨gv, 0, none⟩ = some (.string n) := cell_of_row _ _ 0 _ 81 (0, 0) hg3
      have f0 : w3.frozen? ⟨gv, 0, none⟩ = false := by simp [World.frozen?, hg3]
      have Hg3 := Lib.hid hg3
      have Hb3 := Lib.hid (Hb.out.trans (hb3.mono (by simp)))
      clear hg3 hb3
      go_wp2
      go_end0
      refine ⟨(only_refl' gv w Hb3.out).set_ _ _, .inl ⟨b, Hst.out, rfl, ?_⟩⟩
      have := heap_setCell_same w3 gv 0 _ 81 (.string b) Hg3.out
      simpa using this
    · have Hst := Lib.hid (show nameStep n ⟨1, kind, u, b⟩ = .error 3 by simp [nameStep, h2])
      have HC := Lib.hid (fun w => text_no 1 kind u b w h2)
      unfold Fd.val at HC
      go_enter Try.func77, Try.ntmps77
      go_wp2_with fail
      refine (HC.out _).mono ?_
      rintro e w3 ⟨rfl, hb3⟩
      exact ⟨rfl, only_refl' gv w (Hb.out.trans (hb3.mono (by simp))), .inr ⟨3, Hst.out, rfl⟩⟩
  · have e1 : (num == 1) = false := by simpa using h1
    have Hst := Lib.hid (show nameStep n ⟨num, kind, u, b⟩ = .ok n by simp [nameStep, h1])
    go_enter Try.func77, Try.ntmps77
    go_wp2
    go_end0
    exact ⟨only_refl' gv w Hb.out, .inl ⟨n, Hst.out, rfl, (Hb.out.block gv hlt).trans HG.out⟩⟩
/-- What its second one leaves. -/
def Tp1Is (r : Except Int Int) (gv : Nat) (w : World) (e : Ending) (w' : World) : Prop :=
  Only gv w w' ∧ ((∃ n, r = .ok n ∧ e = .returned (.tuple #[]) ∧ w'.heap[gv]? = some (.cells #[.int .i64 n] 2 (0, 0))) ∨ (∃ err, r = .error err ∧ e = .panicked (refu err)))
set_option maxHeartbeats 800000 in
theorem typ_any (f : Fd) (gv : Nat) (n : Int) (w : World) (hg : w.heap[gv]? = some (.cells #[.int .i64 n] 2 (0, 0))) : Calls Try.prog 78 #[f.val, .pointer (some ⟨gv, 0, none⟩)] w (Tp1Is (typStep n f) gv w) := by
  have hlt : gv < w.heap.size := (Array.getElem?_eq_some_iff.1 hg).1
  have HG := Lib.hid hg
  clear hg
  obtain ⟨num, kind, u, b⟩ := f
  have hb : Below w.heap.size w (w.alloc (.cells #[.int .i64 num, .int .i64 kind, .int .u64 u, .string b] 24)) := (Below.refl _ _).alloc (Nat.le_refl _) _
  have Hb := Lib.hid hb
  clear hb
  unfold Fd.val
  by_cases h1 : num = 1
  · subst h1
    by_cases h2 : kind = 0
    · subst h2
      have Hst := Lib.hid (show typStep n ⟨1, 0, u, b⟩ = .ok (i64 u) by simp [typStep])
      have HC := Lib.hid (fun w => varint_yes 1 u b w)
      unfold Fd.val at HC
      go_enter Try.func78, Try.ntmps78
      go_wp2_with fail
      refine (HC.out _).mono ?_
      rintro e w3 ⟨rfl, hb3⟩
      have hg3 : w3.heap[gv]? = some (.cells #[.int .i64 n] 2 (0, 0)) := (hb3.block gv (by simp; omega)).trans ((Hb.out.block gv hlt).trans HG.out)
      have c0 : w3.cell? ⟨gv, 0, none⟩ = some (.int .i64 n) := cell_of_row _ _ 0 _ 2 (0, 0) hg3
      have f0 : w3.frozen? ⟨gv, 0, none⟩ = false := by simp [World.frozen?, hg3]
      have Hg3 := Lib.hid hg3
      have Hb3 := Lib.hid (Hb.out.trans (hb3.mono (by simp)))
      clear hg3 hb3
      go_wp2
      go_end0
      refine ⟨(only_refl' gv w Hb3.out).set_ _ _, .inl ⟨i64 u, Hst.out, rfl, ?_⟩⟩
      have := heap_setCell_same w3 gv 0 _ 2 (.int .i64 (i64 u)) Hg3.out
      simpa using this
    · have Hst := Lib.hid (show typStep n ⟨1, kind, u, b⟩ = .error 3 by simp [typStep, h2])
      have HC := Lib.hid (fun w => varint_no 1 kind u b w h2)
      unfold Fd.val at HC
      go_enter Try.func78, Try.ntmps78
      go_wp2_with fail
      refine (HC.out _).mono ?_
      rintro e w3 ⟨rfl, hb3⟩
      exact ⟨rfl, only_refl' gv w (Hb.out.trans (hb3.mono (by simp))), .inr ⟨3, Hst.out, rfl⟩⟩
  · have e1 : (num == 1) = false := by simpa using h1
    have Hst := Lib.hid (show typStep n ⟨num, kind, u, b⟩ = .ok n by simp [typStep, h1])
    go_enter Try.func78, Try.ntmps78
    go_wp2
    go_end0
    exact ⟨only_refl' gv w Hb.out, .inl ⟨n, Hst.out, rfl, (Hb.out.block gv hlt).trans HG.out⟩⟩
end Go.Proofs.Ytkcnpnnflbibiaa

/- The walks: the joined bytes of a message's field, for each inner function. -/
namespace Go.Proofs.Ytkcnpnnflbibiaa
open Go.RowKit

def JP0 (r : Except Int (ByteArray × Bool × Unit)) (w : World) (e : Ending) (w' : World) : Prop :=
  Below w.heap.size w w' ∧ ((∃ b had, r = .ok (b, had, ()) ∧ e = .returned (.tuple #[.string b, .bool had])) ∨ (∃ err, r = .error err ∧ e = .panicked (refu err)))
def JPN (r : Except Int (ByteArray × Bool × ByteArray)) (gv : Nat) (x y : Value) (w : World) (e : Ending) (w' : World) : Prop :=
  Only gv w w' ∧ ((∃ b had n, r = .ok (b, had, n) ∧ e = .returned (.tuple #[.string b, .bool had]) ∧ w'.heap[gv]? = some (.cells #[.string n, x, y] 81 (0, 0))) ∨ (∃ err, r = .error err ∧ e = .panicked (refu err)))
def JPT (r : Except Int (ByteArray × Bool × Int)) (gv : Nat) (w : World) (e : Ending) (w' : World) : Prop :=
  Only gv w w' ∧ ((∃ b had n, r = .ok (b, had, n) ∧ e = .returned (.tuple #[.string b, .bool had]) ∧ w'.heap[gv]? = some (.cells #[.int .i64 n] 2 (0, 0))) ∨ (∃ err, r = .error err ∧ e = .panicked (refu err)))
theorem only_all {b : Nat} {x y z : World} (h : Only b x y) (hb : Only b y z) : Only b x z := h.trans hb

set_option maxRecDepth 100000 in
set_option maxHeartbeats 1600000 in
theorem joined_p (s : ByteArray) (num0 : Int) (w : World) (hs : s.size ≤ 140737488351232) : Calls Try.prog 20 #[.string s, .int .i64 num0, .func (.func 21) #[] #[]] w (JP0 (joinE noStep num0 () s) w) := by
  have HT := Lib.hid (fields_any s w hs)
  go_enter Try.func20, Try.ntmps20
  go_wp2_with fail
  refine HT.out.mono ?_
  rintro e w1 ⟨hb1, ⟨l, A, c, hl, rfl, hof⟩ | ⟨err, he, rfl⟩⟩
  · have z1 := hb1.size
    have Hb1 := Lib.hid hb1
    have hn : l.length ≤ 9223372036854775807 := hof.2
    have hfb : 0 < l.length → ∃ g, A = some ⟨g, 0, none⟩ ∧ w.heap.size ≤ g ∧ g < w1.heap.size := fun hn => by
      obtain ⟨g, cap, e, h1, h2⟩ := World.ownsRow.form hof.1 hn
      simp only [Value.slice.injEq] at e
      exact ⟨g, e.1, h1, h2⟩
    have Hfb := Lib.hid hfb
    have Hfl := Lib.hid (hof.flds rfl)
    have HL := Lib.hid hl
    have Hk := Lib.hid (fldsE_ok hl)
    clear hof hfb hl HT hb1
    go_wp2_with fail
    go_loopw [8, 9, 15] (fun v8 v9 i wr => ∃ k : Nat, k ≤ l.length ∧ i = .int .i64 k ∧ ∃ a : ByteArray × Bool × Unit, runF (jStep noStep num0) (⟨#[]⟩, false, ()) (l.take k) = .ok a ∧ a.1.size ≤ wt (l.take k) ∧ v8 = .string a.1 ∧ v9 = .bool a.2.1 ∧ Below w1.heap.size w1 wr) (fun _ _ i _ => l.length - (intOf i).toNat)
    case atStart => exact ⟨0, by omega, rfl, _, rfl, Nat.zero_le _, rfl, rfl, Below.refl _ _⟩
    case round =>
      obtain ⟨k, hk, rfl, ⟨jb, jh, jx⟩, hrun, hlen, rfl, rfl, hb⟩ := hrel
      dsimp only at hlen ⊢
      have Hrun := Lib.hid hrun
      have Hb := Lib.hid hb
      have zr := hb.size
      have Hbw := Lib.hid (show Below w.heap.size w wr from Hb1.out.trans (hb.mono z1))
      have hwl := wt_mono l k
      have hws := Hk.out.2.2.2.2
      have hsz := Hk.out.2.1
      clear hrun hb
      by_cases hlt2 : k < l.length
      · obtain ⟨f, hf⟩ : ∃ f, l[k]? = some f := ⟨_, List.getElem?_eq_getElem hlt2⟩
        obtain ⟨g, rfl, hg1, hg2⟩ := Hfb.out (by omega)
        obtain ⟨b1, o1, e1, hb1, hc1⟩ := Hfl.out.at_ (by omega)
        simp only [Option.some.injEq, Addr.mk.injEq, and_true] at e1
        obtain ⟨rfl, rfl⟩ := e1
        obtain ⟨x0, x1, x2, x3⟩ := hc1 k f hf
        have hkp : ∀ i, wr.cell? ⟨g, i, none⟩ = w1.cell? ⟨g, i, none⟩ := fun i => Hb.out.cell (p := ⟨g, i, none⟩) hg2
        rw [Nat.mul_comm 4 k, Nat.zero_add, ← hkp] at x0 x1 x2 x3
        have hwk := wt_take l k f hf
        have hwm := wt_mono l (k + 1)
        have HE := Lib.hid (fun e => joinE_bad (s := s) (e := e) HL.out hf Hrun.out)
        have HR := Lib.hid (runF_take (jStep noStep num0) _ l k f hf _ Hrun.out)
        clear hc1 hf hkp
        obtain ⟨num, kind, u, b⟩ := f
        dsimp only at x0 x1 x2 x3 hwk
        have Hba := Lib.hid (show Below w1.heap.size w1 (wr.alloc (.cells #[.int .i64 num, .int .i64 kind, .int .u64 u, .string b] 24)) from Hb.out.alloc zr (.cells #[.int .i64 num, .int .i64 kind, .int .u64 u, .string b] 24))
        have Hbwa := Lib.hid (show Below w.heap.size w (wr.alloc (.cells #[.int .i64 num, .int .i64 kind, .int .u64 u, .string b] 24)) from Hbw.out.alloc (by omega) (.cells #[.int .i64 num, .int .i64 kind, .int .u64 u, .string b] 24))
        by_cases h1 : num = num0
        · subst h1
          by_cases hkd : kind = 2
          · subst hkd
            have Hst := Lib.hid (show jStep noStep num (jb, jh, jx) ⟨num, 2, u, b⟩ = .ok (jb ++ b, true, jx) by simp [jStep])
            have HC := Lib.hid (fun w => text_yes num u b w)
            unfold Fd.val at HC
            have hq : ¬ 9223372036854775807 < jb.size + b.size := by omega
            have hap := ByteArray.size_append (a := jb) (b := b)
            go_wp2_with fail
            refine (HC.out _).mono ?_
            rintro e w3 ⟨rfl, hb3⟩
            have Hb3 := Lib.hid (Hba.out.trans (hb3.mono (by simp; omega)))
            clear hb3
            go_wp2
            go_roundw
            case rel => exact ⟨k + 1, by omega, by go_num, _, HR.out.trans Hst.out, by dsimp only; omega, rfl, rfl, Hb3.out⟩
            case measure => simp [intOf]; omega
          · have Hst := Lib.hid (show jStep noStep num (jb, jh, jx) ⟨num, kind, u, b⟩ = .error 3 by simp [jStep, hkd])
            have HC := Lib.hid (fun w => text_no num kind u b w hkd)
            unfold Fd.val at HC
            go_wp2_with fail
            refine (HC.out _).mono ?_
            rintro e w3 ⟨rfl, hb3⟩
            exact ⟨rfl, Hbwa.out.trans (hb3.mono (by simp; omega)), .inr ⟨3, HE.out 3 Hst.out, rfl⟩⟩
        · have e1 : (num == num0) = false := by simpa using h1
          have Hst := Lib.hid (show jStep noStep num0 (jb, jh, jx) ⟨num, kind, u, b⟩ = .ok (jb, jh, jx) by simp [jStep, h1, noStep])
          have HC := Lib.hid (fun w => pass_any ⟨num, kind, u, b⟩ w)
          unfold Fd.val at HC
          go_wp2_with fail
          refine (HC.out _).mono ?_
          rintro e w3 ⟨rfl, hb3⟩
          have Hb3 := Lib.hid (Hba.out.trans (hb3.mono (by simp; omega)))
          clear hb3
          go_wp2
          go_roundw
          case rel => exact ⟨k + 1, by omega, by go_num, _, HR.out.trans Hst.out, by dsimp only; omega, rfl, rfl, Hb3.out⟩
          case measure => simp [intOf]; omega
      · obtain rfl : k = l.length := by omega
        have hall := joinE_all (x := ()) HL.out (by have := Hrun.out; rw [List.take_length] at this; exact this)
        have Hall := Lib.hid hall
        clear hall
        go_wp2
        go_ret2
        exact ⟨Hbw.out, .inl ⟨jb, jh, Hall.out, rfl⟩⟩
  · exact ⟨rfl, hb1, .inr ⟨err, by unfold joinE; rw [he], rfl⟩⟩

set_option maxRecDepth 100000 in
set_option maxHeartbeats 1600000 in
theorem joined_n (s : ByteArray) (num0 : Int) (gv : Nat) (n0 : ByteArray) (x y : Value) (w : World) (hs : s.size ≤ 140737488351232) (hg : w.heap[gv]? = some (.cells #[.string n0, x, y] 81 (0, 0))) : Calls Try.prog 20 #[.string s, .int .i64 num0, .func (.func 77) #[] #[.pointer (some ⟨gv, 0, none⟩)]] w (JPN (joinE nameStep num0 n0 s) gv x y w) := by
  have HT := Lib.hid (fields_any s w hs)
  have hlt : gv < w.heap.size := (Array.getElem?_eq_some_iff.1 hg).1
  have HG := Lib.hid hg
  clear hg
  go_enter Try.func20, Try.ntmps20
  go_wp2_with fail
  refine HT.out.mono ?_
  rintro e w1 ⟨hb1, ⟨l, A, c, hl, rfl, hof⟩ | ⟨err, he, rfl⟩⟩
  · have z1 := hb1.size
    have Hb1 := Lib.hid hb1
    have hn : l.length ≤ 9223372036854775807 := hof.2
    have hfb : 0 < l.length → ∃ g, A = some ⟨g, 0, none⟩ ∧ w.heap.size ≤ g ∧ g < w1.heap.size := fun hn => by
      obtain ⟨g, cap, e, h1, h2⟩ := World.ownsRow.form hof.1 hn
      simp only [Value.slice.injEq] at e
      exact ⟨g, e.1, h1, h2⟩
    have Hfb := Lib.hid hfb
    have Hfl := Lib.hid (hof.flds rfl)
    have HL := Lib.hid hl
    have Hk := Lib.hid (fldsE_ok hl)
    clear hof hfb hl HT hb1
    go_wp2_with fail
    go_loopw [8, 9, 15] (fun v8 v9 i wr => ∃ k : Nat, k ≤ l.length ∧ i = .int .i64 k ∧ ∃ a : ByteArray × Bool × ByteArray, runF (jStep nameStep num0) (⟨#[]⟩, false, n0) (l.take k) = .ok a ∧ a.1.size ≤ wt (l.take k) ∧ v8 = .string a.1 ∧ v9 = .bool a.2.1 ∧ Only gv w1 wr ∧ wr.heap[gv]? = some (.cells #[.string a.2.2, x, y] 81 (0, 0))) (fun _ _ i _ => l.length - (intOf i).toNat)
    case atStart => exact ⟨0, by omega, rfl, _, rfl, Nat.zero_le _, rfl, rfl, Only.refl _ _, (Hb1.out.block gv hlt).trans HG.out⟩
    case round =>
      obtain ⟨k, hk, rfl, ⟨jb, jh, jx⟩, hrun, hlen, rfl, rfl, hb, hgv⟩ := hrel
      dsimp only at hlen hgv ⊢
      have Hrun := Lib.hid hrun
      have Hb := Lib.hid hb
      have zr := hb.size
      have HGv := Lib.hid hgv
      have Hbw := Lib.hid (show Only gv w wr from (only_refl' gv w Hb1.out).trans hb)
      have hwl := wt_mono l k
      have hws := Hk.out.2.2.2.2
      have hsz := Hk.out.2.1
      clear hrun hb hgv
      by_cases hlt2 : k < l.length
      · obtain ⟨f, hf⟩ : ∃ f, l[k]? = some f := ⟨_, List.getElem?_eq_getElem hlt2⟩
        obtain ⟨g, rfl, hg1, hg2⟩ := Hfb.out (by omega)
        obtain ⟨b1, o1, e1, hb1, hc1⟩ := Hfl.out.at_ (by omega)
        simp only [Option.some.injEq, Addr.mk.injEq, and_true] at e1
        obtain ⟨rfl, rfl⟩ := e1
        obtain ⟨x0, x1, x2, x3⟩ := hc1 k f hf
        have hkp : ∀ i, wr.cell? ⟨g, i, none⟩ = w1.cell? ⟨g, i, none⟩ := fun i => World.cell?_of_block (a := ⟨g, i, none⟩) (Hb.out.block g hg2 (by omega))
        rw [Nat.mul_comm 4 k, Nat.zero_add, ← hkp] at x0 x1 x2 x3
        have hwk := wt_take l k f hf
        have hwm := wt_mono l (k + 1)
        have HE := Lib.hid (fun e => joinE_bad (s := s) (e := e) HL.out hf Hrun.out)
        have HR := Lib.hid (runF_take (jStep nameStep num0) _ l k f hf _ Hrun.out)
        clear hc1 hf hkp
        obtain ⟨num, kind, u, b⟩ := f
        dsimp only at x0 x1 x2 x3 hwk
        have Hba := Lib.hid (show Only gv w1 (wr.alloc (.cells #[.int .i64 num, .int .i64 kind, .int .u64 u, .string b] 24)) from Hb.out.alloc (.cells #[.int .i64 num, .int .i64 kind, .int .u64 u, .string b] 24))
        have Hbwa := Lib.hid (show Only gv w (wr.alloc (.cells #[.int .i64 num, .int .i64 kind, .int .u64 u, .string b] 24)) from Hbw.out.alloc (.cells #[.int .i64 num, .int .i64 kind, .int .u64 u, .string b] 24))
        have hga := (Below.heap_alloc wr (.cells #[.int .i64 num, .int .i64 kind, .int .u64 u, .string b] 24) gv (by omega)).trans HGv.out
        have HGa := Lib.hid hga
        clear hga
        by_cases h1 : num = num0
        · subst h1
          by_cases hkd : kind = 2
          · subst hkd
            have Hst := Lib.hid (show jStep nameStep num (jb, jh, jx) ⟨num, 2, u, b⟩ = .ok (jb ++ b, true, jx) by simp [jStep])
            have HC := Lib.hid (fun w => text_yes num u b w)
            unfold Fd.val at HC
            have hq : ¬ 9223372036854775807 < jb.size + b.size := by omega
            have hap := ByteArray.size_append (a := jb) (b := b)
            go_wp2_with fail
            refine (HC.out _).mono ?_
            rintro e w3 ⟨rfl, hb3⟩
            have Hb3 := Lib.hid (only_below Hba.out hb3)
            have HG3 := Lib.hid ((hb3.block gv (by simp; omega)).trans HGa.out)
            clear hb3
            go_wp2
            go_roundw
            case rel => exact ⟨k + 1, by omega, by go_num, _, HR.out.trans Hst.out, by dsimp only; omega, rfl, rfl, Hb3.out, HG3.out⟩
            case measure => simp [intOf]; omega
          · have Hst := Lib.hid (show jStep nameStep num (jb, jh, jx) ⟨num, kind, u, b⟩ = .error 3 by simp [jStep, hkd])
            have HC := Lib.hid (fun w => text_no num kind u b w hkd)
            unfold Fd.val at HC
            go_wp2_with fail
            refine (HC.out _).mono ?_
            rintro e w3 ⟨rfl, hb3⟩
            exact ⟨rfl, only_below Hbwa.out hb3, .inr ⟨3, HE.out 3 Hst.out, rfl⟩⟩
        · have e1 : (num == num0) = false := by simpa using h1
          have HC := Lib.hid (name_any ⟨num, kind, u, b⟩ gv jx x y _ HGa.out)
          unfold Fd.val at HC
          go_wp2_with fail
          refine HC.out.mono ?_
          rintro e w3 ⟨ho3, ⟨n, hn3, rfl, hg3⟩ | ⟨err, hn3, rfl⟩⟩
          · have Hst := Lib.hid (show jStep nameStep num0 (jb, jh, jx) ⟨num, kind, u, b⟩ = .ok (jb, jh, n) by simp [jStep, h1, hn3])
            have Hb3 := Lib.hid (Hba.out.trans ho3)
            have HG3 := Lib.hid hg3
            clear ho3 hg3 hn3
            go_wp2
            go_roundw
            case rel => exact ⟨k + 1, by omega, by go_num, _, HR.out.trans Hst.out, by dsimp only; omega, rfl, rfl, Hb3.out, HG3.out⟩
            case measure => simp [intOf]; omega
          · have Hst := Lib.hid (show jStep nameStep num0 (jb, jh, jx) ⟨num, kind, u, b⟩ = .error err by simp [jStep, h1, hn3])
            exact ⟨rfl, Hbwa.out.trans ho3, .inr ⟨err, HE.out err Hst.out, rfl⟩⟩
      · obtain rfl : k = l.length := by omega
        have hall := joinE_all (x := n0) HL.out (by have := Hrun.out; rw [List.take_length] at this; exact this)
        have Hall := Lib.hid hall
        clear hall
        go_wp2
        go_ret2
        exact ⟨Hbw.out, .inl ⟨jb, jh, jx, Hall.out, rfl, HGv.out⟩⟩
  · exact ⟨rfl, only_refl' gv w hb1, .inr ⟨err, by unfold joinE; rw [he], rfl⟩⟩

set_option maxRecDepth 100000 in
set_option maxHeartbeats 1600000 in
theorem joined_t (s : ByteArray) (num0 : Int) (gv : Nat) (n0 : Int) (w : World) (hs : s.size ≤ 140737488351232) (hg : w.heap[gv]? = some (.cells #[.int .i64 n0] 2 (0, 0))) : Calls Try.prog 20 #[.string s, .int .i64 num0, .func (.func 78) #[] #[.pointer (some ⟨gv, 0, none⟩)]] w (JPT (joinE typStep num0 n0 s) gv w) := by
  have HT := Lib.hid (fields_any s w hs)
  have hlt : gv < w.heap.size := (Array.getElem?_eq_some_iff.1 hg).1
  have HG := Lib.hid hg
  clear hg
  go_enter Try.func20, Try.ntmps20
  go_wp2_with fail
  refine HT.out.mono ?_
  rintro e w1 ⟨hb1, ⟨l, A, c, hl, rfl, hof⟩ | ⟨err, he, rfl⟩⟩
  · have z1 := hb1.size
    have Hb1 := Lib.hid hb1
    have hn : l.length ≤ 9223372036854775807 := hof.2
    have hfb : 0 < l.length → ∃ g, A = some ⟨g, 0, none⟩ ∧ w.heap.size ≤ g ∧ g < w1.heap.size := fun hn => by
      obtain ⟨g, cap, e, h1, h2⟩ := World.ownsRow.form hof.1 hn
      simp only [Value.slice.injEq] at e
      exact ⟨g, e.1, h1, h2⟩
    have Hfb := Lib.hid hfb
    have Hfl := Lib.hid (hof.flds rfl)
    have HL := Lib.hid hl
    have Hk := Lib.hid (fldsE_ok hl)
    clear hof hfb hl HT hb1
    go_wp2_with fail
    go_loopw [8, 9, 15] (fun v8 v9 i wr => ∃ k : Nat, k ≤ l.length ∧ i = .int .i64 k ∧ ∃ a : ByteArray × Bool × Int, runF (jStep typStep num0) (⟨#[]⟩, false, n0) (l.take k) = .ok a ∧ a.1.size ≤ wt (l.take k) ∧ v8 = .string a.1 ∧ v9 = .bool a.2.1 ∧ Only gv w1 wr ∧ wr.heap[gv]? = some (.cells #[.int .i64 a.2.2] 2 (0, 0))) (fun _ _ i _ => l.length - (intOf i).toNat)
    case atStart => exact ⟨0, by omega, rfl, _, rfl, Nat.zero_le _, rfl, rfl, Only.refl _ _, (Hb1.out.block gv hlt).trans HG.out⟩
    case round =>
      obtain ⟨k, hk, rfl, ⟨jb, jh, jx⟩, hrun, hlen, rfl, rfl, hb, hgv⟩ := hrel
      dsimp only at hlen hgv ⊢
      have Hrun := Lib.hid hrun
      have Hb := Lib.hid hb
      have zr := hb.size
      have HGv := Lib.hid hgv
      have Hbw := Lib.hid (show Only gv w wr from (only_refl' gv w Hb1.out).trans hb)
      have hwl := wt_mono l k
      have hws := Hk.out.2.2.2.2
      have hsz := Hk.out.2.1
      clear hrun hb hgv
      by_cases hlt2 : k < l.length
      · obtain ⟨f, hf⟩ : ∃ f, l[k]? = some f := ⟨_, List.getElem?_eq_getElem hlt2⟩
        obtain ⟨g, rfl, hg1, hg2⟩ := Hfb.out (by omega)
        obtain ⟨b1, o1, e1, hb1, hc1⟩ := Hfl.out.at_ (by omega)
        simp only [Option.some.injEq, Addr.mk.injEq, and_true] at e1
        obtain ⟨rfl, rfl⟩ := e1
        obtain ⟨x0, x1, x2, x3⟩ := hc1 k f hf
        have hkp : ∀ i, wr.cell? ⟨g, i, none⟩ = w1.cell? ⟨g, i, none⟩ := fun i => World.cell?_of_block (a := ⟨g, i, none⟩) (Hb.out.block g hg2 (by omega))
        rw [Nat.mul_comm 4 k, Nat.zero_add, ← hkp] at x0 x1 x2 x3
        have hwk := wt_take l k f hf
        have hwm := wt_mono l (k + 1)
        have HE := Lib.hid (fun e => joinE_bad (s := s) (e := e) HL.out hf Hrun.out)
        have HR := Lib.hid (runF_take (jStep typStep num0) _ l k f hf _ Hrun.out)
        clear hc1 hf hkp
        obtain ⟨num, kind, u, b⟩ := f
        dsimp only at x0 x1 x2 x3 hwk
        have Hba := Lib.hid (show Only gv w1 (wr.alloc (.cells #[.int .i64 num, .int .i64 kind, .int .u64 u, .string b] 24)) from Hb.out.alloc (.cells #[.int .i64 num, .int .i64 kind, .int .u64 u, .string b] 24))
        have Hbwa := Lib.hid (show Only gv w (wr.alloc (.cells #[.int .i64 num, .int .i64 kind, .int .u64 u, .string b] 24)) from Hbw.out.alloc (.cells #[.int .i64 num, .int .i64 kind, .int .u64 u, .string b] 24))
        have hga := (Below.heap_alloc wr (.cells #[.int .i64 num, .int .i64 kind, .int .u64 u, .string b] 24) gv (by omega)).trans HGv.out
        have HGa := Lib.hid hga
        clear hga
        by_cases h1 : num = num0
        · subst h1
          by_cases hkd : kind = 2
          · subst hkd
            have Hst := Lib.hid (show jStep typStep num (jb, jh, jx) ⟨num, 2, u, b⟩ = .ok (jb ++ b, true, jx) by simp [jStep])
            have HC := Lib.hid (fun w => text_yes num u b w)
            unfold Fd.val at HC
            have hq : ¬ 9223372036854775807 < jb.size + b.size := by omega
            have hap := ByteArray.size_append (a := jb) (b := b)
            go_wp2_with fail
            refine (HC.out _).mono ?_
            rintro e w3 ⟨rfl, hb3⟩
            have Hb3 := Lib.hid (only_below Hba.out hb3)
            have HG3 := Lib.hid ((hb3.block gv (by simp; omega)).trans HGa.out)
            clear hb3
            go_wp2
            go_roundw
            case rel => exact ⟨k + 1, by omega, by go_num, _, HR.out.trans Hst.out, by dsimp only; omega, rfl, rfl, Hb3.out, HG3.out⟩
            case measure => simp [intOf]; omega
          · have Hst := Lib.hid (show jStep typStep num (jb, jh, jx) ⟨num, kind, u, b⟩ = .error 3 by simp [jStep, hkd])
            have HC := Lib.hid (fun w => text_no num kind u b w hkd)
            unfold Fd.val at HC
            go_wp2_with fail
            refine (HC.out _).mono ?_
            rintro e w3 ⟨rfl, hb3⟩
            exact ⟨rfl, only_below Hbwa.out hb3, .inr ⟨3, HE.out 3 Hst.out, rfl⟩⟩
        · have e1 : (num == num0) = false := by simpa using h1
          have HC := Lib.hid (typ_any ⟨num, kind, u, b⟩ gv jx _ HGa.out)
          unfold Fd.val at HC
          go_wp2_with fail
          refine HC.out.mono ?_
          rintro e w3 ⟨ho3, ⟨n, hn3, rfl, hg3⟩ | ⟨err, hn3, rfl⟩⟩
          · have Hst := Lib.hid (show jStep typStep num0 (jb, jh, jx) ⟨num, kind, u, b⟩ = .ok (jb, jh, n) by simp [jStep, h1, hn3])
            have Hb3 := Lib.hid (Hba.out.trans ho3)
            have HG3 := Lib.hid hg3
            clear ho3 hg3 hn3
            go_wp2
            go_roundw
            case rel => exact ⟨k + 1, by omega, by go_num, _, HR.out.trans Hst.out, by dsimp only; omega, rfl, rfl, Hb3.out, HG3.out⟩
            case measure => simp [intOf]; omega
          · have Hst := Lib.hid (show jStep typStep num0 (jb, jh, jx) ⟨num, kind, u, b⟩ = .error err by simp [jStep, h1, hn3])
            exact ⟨rfl, Hbwa.out.trans ho3, .inr ⟨err, HE.out err Hst.out, rfl⟩⟩
      · obtain rfl : k = l.length := by omega
        have hall := joinE_all (x := n0) HL.out (by have := Hrun.out; rw [List.take_length] at this; exact this)
        have Hall := Lib.hid hall
        clear hall
        go_wp2
        go_ret2
        exact ⟨Hbw.out, .inl ⟨jb, jh, jx, Hall.out, rfl, HGv.out⟩⟩
  · exact ⟨rfl, only_refl' gv w hb1, .inr ⟨err, by unfold joinE; rw [he], rfl⟩⟩
end Go.Proofs.Ytkcnpnnflbibiaa

/- What the reader of a value gathers: plain. -/
namespace Go.Proofs.Ytkcnpnnflbibiaa
open Go.RowKit

def vdStep (d : List Int) (f : Fd) : Except Int (List Int) :=
  if f.num = 1 then (if f.kind = 2 then (match dimE f.b with | .error e => .error e | .ok x => .ok (d ++ [x])) else .error 3) else .ok d
def vEnd (name : ByteArray) (typ : Int) (has : Bool) (dims : List Int) : Except Int Vl :=
  if (has && typd typ) = false then .error 5 else if errC dims ≠ 0 then .error (errC dims) else if 100 < name.size then .error 6 else .ok ⟨name, typ, dims⟩
def valueE (s : ByteArray) : Except Int Vl :=
  match joinE nameStep 2 ⟨#[]⟩ s with
  | .error e => .error e
  | .ok (t, had, name) =>
    if had = false then .error 5 else
    match joinE noStep 1 () t with
    | .error e => .error e
    | .ok (u, is, _) =>
      if is = false then .error 5 else
      match joinE typStep 2 0 u with
      | .error e => .error e
      | .ok (wb, has, typ) =>
        match fldsE wb with
        | .error e => .error e
        | .ok l => match runF vdStep [] l with
          | .error e => .error e
          | .ok dims => vEnd name typ has dims
theorem run_join_size {σ : Type} (g : σ → Fd → Except Int σ) (num : Int) : ∀ l (a b : ByteArray × Bool × σ), runF (jStep g num) a l = .ok b → b.1.size ≤ a.1.size + wt l := by
  intro l
  induction l with
  | nil => intro a b h; cases h; simp [wt]
  | cons f l ih =>
    intro a b h
    simp only [runF] at h
    cases hs : jStep g num a f with
    | error e => rw [hs] at h; cases h
    | ok c =>
      rw [hs] at h
      have h1 := ih c b h
      have h2 : c.1.size ≤ a.1.size + f.b.size := by
        unfold jStep at hs
        split at hs
        · split at hs
          · cases hs; simp
          · cases hs
        · split at hs
          · cases hs
          · cases hs; simp
      simp only [wt]; omega
theorem joinE_size {σ : Type} {g : σ → Fd → Except Int σ} {num : Int} {x : σ} {s : ByteArray} {a : ByteArray × Bool × σ} (h : joinE g num x s = .ok a) : a.1.size ≤ 16777216 := by
  unfold joinE at h
  cases hl : fldsE s with
  | error e => rw [hl] at h; cases h
  | ok l =>
    rw [hl] at h
    have h1 := run_join_size g num l _ a h
    have h2 := fldsE_ok hl
    have h0 : (⟨#[]⟩ : ByteArray).size = 0 := rfl
    simp only [h0] at h1
    omega
theorem vd_len : ∀ l (a b : List Int), runF vdStep a l = .ok b → b.length ≤ a.length + wt l := by
  intro l
  induction l with
  | nil => intro a b h; cases h; simp [wt]
  | cons f l ih =>
    intro a b h
    simp only [runF] at h
    cases hs : vdStep a f with
    | error e => rw [hs] at h; cases h
    | ok c =>
      rw [hs] at h
      have h1 := ih c b h
      have h2 : c.length ≤ a.length + 1 := by
        unfold vdStep at hs
        split at hs
        · split at hs
          · split at hs
            · cases hs
            · cases hs; simp
          · cases hs
        · cases hs; omega
      simp only [wt]; omega

/-- One integer more, at a step of a region that draws. -/
theorem step_append_d1 {P : Program} (w : World) (x : Int) {ops : Array Oper} {o : Oper} {a : Act} {K : Act → World → Prop} {Q : Exit → Act → World → Prop} {E : Prop} (hgd : o.guard = none) (s y : Operand) (t : TypeId)
    (ho : o.op = .call { callee := .builtin .append, args := #[s, y], argTypes := #[t, t] })
    (i : TypeInfo) (z : Value) (hzc : z.cells.size = 1) (ht : P.underlying t = some (.slice 3)) (hi : P.info? 3 = some i) (hz : i.zero = some z) (hsize : i.size = 1) (hby : i.bytes = 8)
    (B : Nat) (v : Value) (l : List Int) (hs : a.eval s = v) (hown : OwnD w B v l) (g : Nat) (hgw : g = w.heap.size) (hx : a.eval y = .slice (some ⟨g, 0, none⟩) 1 1)
    (hlen : (l.length + 1) * 8 ≤ 140737488355328) (hbase : B ≤ w.heap.size)
    (h : ∀ v' w', OwnD w' B v' (l ++ [x]) → w.grownBy w' v.ownBlock → From v v' w.heap.size → K (a.put o.dst v') w') :
    if Region.wanted o (yielded ops a.tmps) = true then Oper.wp P o a (w.alloc (.cells #[.int .i64 x] 3)) K Q else E := by
  subst hgw
  have hnew := heap_alloc_new w (.cells #[.int .i64 x] 3)
  have hlt := OwnL.lt hown
  refine step_append_l _ hgd s y t ho repInt 3 i z 8 ht hi hz hsize hby hzc (by decide) B (fun _ => False) v l hs (hown.below ((Below.refl _ _).alloc (Nat.le_refl _) _)) (fun k => k = w.heap.size) _ 1 1 [x] hx (slc_temp (cs := [.int .i64 x]) hnew rfl rfl) (fun k h => h.elim) ?_ (by simp; omega) (by unfold maxLen; simp; omega) (by simp; omega) ?_
  · intro k hk
    subst hk
    refine ⟨by simp, fun e => ?_⟩
    have := hlt _ e
    omega
  · intro v' w' h1 h2 h3
    refine h v' w' (ints_free (h1 (fun k => k = w.heap.size) (fun _ h => h.elim) (fun _ h => h))) (grown_trans (grown_alloc w _ v.ownBlock) h2 (fun k hk => .inl hk)) (fun k hk => ?_)
    rcases h3 with h3 | h3
    · rw [h3] at hk; exact .inl hk
    · rw [h3] at hk; simp at hk; exact .inr (by omega)
/-- While a value's dimensions are read. -/
structure VInv (w1 wr : World) (gv : Nat) (name : ByteArray) (v : Value) (d : List Int) : Prop where
  lt : gv < w1.heap.size
  only : Only gv w1 wr
  t : wr.heap[gv]? = some (.cells #[.string name, .int .i64 0, v] 81 (0, 0))
  own : OwnD wr w1.heap.size v d
section
variable {w1 wr w' : World} {gv : Nat} {name : ByteArray} {v v' : Value} {d d' : List Int}
theorem VInv.below (h : VInv w1 wr gv name v d) (hb : Below wr.heap.size wr w') : VInv w1 w' gv name v d :=
  ⟨h.lt, only_below h.only hb, (hb.block gv (Nat.lt_of_lt_of_le h.lt h.only.size)).trans h.t, h.own.below hb⟩
theorem VInv.t_grown (h : VInv w1 wr gv name v d) (hg : wr.grownBy w' v.ownBlock) : w'.heap[gv]? = some (.cells #[.string name, .int .i64 0, v] 81 (0, 0)) :=
  (hg.block gv (Nat.lt_of_lt_of_le h.lt h.only.size) fun e => by have := (OwnL.lt h.own gv e.symm).1; have := h.lt; omega).trans h.t
theorem VInv.more (h : VInv w1 wr gv name v d) (hg : wr.grownBy w' v.ownBlock) (ho : OwnD w' w1.heap.size v' d') : VInv w1 (w'.setCell ⟨gv, 2, none⟩ v') gv name v' d' := by
  refine ⟨h.lt, (only_grown h.only hg fun k hk => (OwnL.lt h.own k hk).1).set_ _ _, ?_, ho.set_far (by exact h.lt) _⟩
  have := heap_setCell_same w' gv 2 #[.string name, .int .i64 0, v] 81 v' (h.t_grown hg)
  simpa using this
end
/-- What value leaves. -/
def ValueIs (s : ByteArray) (w : World) (e : Ending) (w' : World) : Prop :=
  Below w.heap.size w w' ∧ ((∃ t cs, valueE s = .ok t ∧ e = .returned (.agg cs.toArray) ∧ repVl.R w' (fun k => w.heap.size ≤ k ∧ k < w'.heap.size) cs t) ∨ (∃ err, valueE s = .error err ∧ e = .panicked (refu err)))
theorem value_no {s : ByteArray} {w w' : World} {err : Int} (hb : Below w.heap.size w w') (h : valueE s = .error err) : ValueIs s w (.panicked (refu err)) w' := ⟨hb, .inr ⟨err, h, rfl⟩⟩
theorem value_fin {w w1 w4 : World} {d : Value} {dims : List Int} (HD4 : OwnD w4 w1.heap.size d dims)
    (G4 : w4.heap[w.heap.size]? = some (.cells #[.string ⟨#[]⟩, .int .i64 0, .slice none 0 0] 81 (0, 0))) (HB4 : Below w.heap.size w w4) (z : w.heap.size < w1.heap.size) (name : ByteArray) (typ : Int) :
    (((w4.setCell ⟨w.heap.size, 0, none⟩ (.string name)).setCell ⟨w.heap.size, 1, none⟩ (.int .i64 typ)).setCell ⟨w.heap.size, 2, none⟩ d).heap[w.heap.size]? = some (.cells #[.string name, .int .i64 typ, d] 81 (0, 0)) ∧
    Below w.heap.size w (((w4.setCell ⟨w.heap.size, 0, none⟩ (.string name)).setCell ⟨w.heap.size, 1, none⟩ (.int .i64 typ)).setCell ⟨w.heap.size, 2, none⟩ d) ∧
    repVl.R (((w4.setCell ⟨w.heap.size, 0, none⟩ (.string name)).setCell ⟨w.heap.size, 1, none⟩ (.int .i64 typ)).setCell ⟨w.heap.size, 2, none⟩ d) (fun k => w.heap.size ≤ k ∧ k < (((w4.setCell ⟨w.heap.size, 0, none⟩ (.string name)).setCell ⟨w.heap.size, 1, none⟩ (.int .i64 typ)).setCell ⟨w.heap.size, 2, none⟩ d).heap.size) [.string name, .int .i64 typ, d] ⟨name, typ, dims⟩ := by
  refine ⟨?_, ((HB4.setCell (Nat.le_refl _) _).setCell (Nat.le_refl _) _).setCell (Nat.le_refl _) _, d, rfl, ?_⟩
  · have h1 := heap_setCell_same w4 w.heap.size 0 _ 81 (.string name) G4
    have h2 := heap_setCell_same _ w.heap.size 1 _ 81 (.int .i64 typ) h1
    have h3 := heap_setCell_same _ w.heap.size 2 _ 81 d h2
    simpa using h3
  · exact own_isSlc (((HD4.set_far (a := ⟨w.heap.size, 0, none⟩) z (.string name)).set_far (a := ⟨w.heap.size, 1, none⟩) z (.int .i64 typ)).set_far (a := ⟨w.heap.size, 2, none⟩) z d) (Nat.le_of_lt z)
end Go.Proofs.Ytkcnpnnflbibiaa
