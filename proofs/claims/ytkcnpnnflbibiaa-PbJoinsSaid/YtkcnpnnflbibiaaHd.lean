/- The walks: whether an attribute may be told, by the reference. -/
import Derived.Test.YtkcnpnnflbibiaaZq
import Derived.Test.YtkcnpnnflbibiaaZn
import Derived.Test.YtkcnpnnflbibiaaEh
import Derived.Deep.Cut
import Derived.Deep.CutBlock
set_option linter.unusedVariables false
namespace Go.Proofs.Ytkcnpnnflbibiaa
open Go.RowKit

theorem noS_is (s : ByteArray) : noS s = decide (s = ⟨#[]⟩) := by
  unfold noS
  by_cases h : s.toList = []
  · rw [decide_eq_true h, decide_eq_true (text_nil h)]
  · rw [decide_eq_false h, decide_eq_false (fun e => h (by rw [e]; exact text_to []))]
theorem hasT_is (t : Tn) : (!hasT t) = sameT t tNone := by
  unfold hasT sameT tNone
  by_cases h1 : t.dims = []
  · by_cases h2 : t.data = []
    · simp [h1, h2, bne]
    · have : 0 < t.data.length := by cases h : t.data <;> simp_all
      simp [h1, h2]
  · have : 0 < t.dims.length := by cases h : t.dims <;> simp_all
    have h3 : decide (0 < t.dims.length + t.data.length) = true := by simp; omega
    rw [h3]; simp [h1]
theorem noI_is (l : List Int) : (l.length == 0) = decide (l = []) := by cases l <;> simp
/-- What is held against an attribute: its own kind's part alone. -/
def only1 (a : At) : At := ⟨a.name, a.kind, a.f, 0, ⟨#[]⟩, tNone, []⟩
def only2 (a : At) : At := ⟨a.name, a.kind, 0, a.i, ⟨#[]⟩, tNone, []⟩
def only3 (a : At) : At := ⟨a.name, a.kind, 0, 0, a.s, tNone, []⟩
def only4 (a : At) : At := ⟨a.name, a.kind, 0, 0, ⟨#[]⟩, a.t, []⟩
def only7 (a : At) : At := ⟨a.name, a.kind, 0, 0, ⟨#[]⟩, tNone, a.ints⟩
theorem told1 {a : At} (h : a.kind = 1) : (chk 1 a.f && decide (a.name.size ≤ 100) && sameA a (only1 a)) = attrT a := by
  simp only [attrT, bareB, h, if_true, sameA, only1, noS_is, hasT_is, noI_is]
  generalize chk 1 a.f = x
  simp only [decide_true, beq_self_eq_true, Bool.true_and]
  cases x <;> cases decide (a.name.size ≤ 100) <;> simp [Bool.and_assoc]
theorem told2 {a : At} (h : a.kind = 2) : (true && decide (a.name.size ≤ 100) && sameA a (only2 a)) = attrT a := by
  simp [attrT, bareB, h, sameA, only2, noS_is, hasT_is, noI_is, Bool.and_assoc]
theorem told3 {a : At} (h : a.kind = 3) : (decide (a.s.size ≤ 100) && decide (a.name.size ≤ 100) && sameA a (only3 a)) = attrT a := by
  simp only [attrT, bareB, h, sameA, only3, noS_is, hasT_is, noI_is]
  cases decide (a.s.size ≤ 100) <;> cases decide (a.name.size ≤ 100) <;> simp [Bool.and_assoc]
theorem told4 {a : At} (h : a.kind = 4) : ((tchk a.t == 0) && decide (a.name.size ≤ 100) && sameA a (only4 a)) = attrT a := by
  simp only [attrT, bareB, h, sameA, only4, noS_is, hasT_is, noI_is, show ∀ t : Tn, sameT t t = true from fun t => by simp [sameT]]
  cases (tchk a.t == 0) <;> cases decide (a.name.size ≤ 100) <;> simp [Bool.and_assoc]
theorem told7 {a : At} (h : a.kind = 7) : (decide (a.ints.length ≤ 20) && decide (a.name.size ≤ 100) && sameA a (only7 a)) = attrT a := by
  simp only [attrT, bareB, h, sameA, only7, noS_is, hasT_is, noI_is]
  cases decide (a.ints.length ≤ 20) <;> cases decide (a.name.size ≤ 100) <;> simp [Bool.and_assoc]
theorem told0 {a : At} (h1 : a.kind ≠ 1) (h2 : a.kind ≠ 2) (h3 : a.kind ≠ 3) (h4 : a.kind ≠ 4) (h7 : a.kind ≠ 7) (b : At) : (false && decide (a.name.size ≤ 100) && sameA a b) = attrT a := by
  simp [attrT, bareB, h1, h2, h3, h4, h7]
/-- Behind the switch. -/
structure TMid (w wx : World) (a : At) (ok : Bool) (b : At) (cs : List Value) (C1 : Option Addr) (m1 : Nat) (C2 : Option Addr) (m2 : Nat) (C3 : Option Addr) (m3 : Nat) : Prop where
  below : Below w.heap.size w wx
  heap : wx.heap[w.heap.size]? = some (.cells cs.toArray 88 (0, 0))
  d : Ints w w.heap.size C1 m1 b.t.dims
  e : Ints w w.heap.size C2 m2 b.t.data
  i : Ints w w.heap.size C3 m3 b.ints
  res : (ok && decide (a.name.size ≤ 100) && sameA a b) = attrT a
theorem ints0 (w : World) (B : Nat) : Ints w B none 0 [] := ⟨rfl, Nat.zero_le _, fun h => absurd h (by omega)⟩
set_option maxRecDepth 100000 in
set_option maxHeartbeats 3200000 in
theorem rattr_any (a : At) (w : World) (B : Nat) (A1 A2 A3 : Option Addr) (n1 c1 n2 c2 n3 c3 : Nat) (hd : Ints w B A1 n1 a.t.dims) (he : Ints w B A2 n2 a.t.data) (hi : Ints w B A3 n3 a.ints) (hB : B ≤ w.heap.size) :
    Calls Try.prog 41 #[.agg #[.string a.name, .int .i64 a.kind, .int .i64 a.f, .int .i64 a.i, .string a.s, .int .i64 a.t.typ, .slice A1 n1 c1, .slice A2 n2 c2, .slice A3 n3 c3]] w (BolB (attrT a) w) := by
  have hb0 : Below w.heap.size w ((w.alloc (.cells #[.string a.name, .int .i64 a.kind, .int .i64 a.f, .int .i64 a.i, .string a.s, .int .i64 a.t.typ, .slice A1 n1 c1, .slice A2 n2 c2, .slice A3 n3 c3] 88)).alloc (.cells #[.string a.name, .int .i64 a.kind, .int .i64 0, .int .i64 0, .string ⟨#[]⟩, .int .i64 0, .slice none 0 0, .slice none 0 0, .slice none 0 0] 88)) := ((Below.refl _ _).alloc (Nat.le_refl _) _).alloc (by simp) _
  have hg1 := (Below.heap_alloc (w.alloc (.cells #[.string a.name, .int .i64 a.kind, .int .i64 a.f, .int .i64 a.i, .string a.s, .int .i64 a.t.typ, .slice A1 n1 c1, .slice A2 n2 c2, .slice A3 n3 c3] 88)) (.cells #[.string a.name, .int .i64 a.kind, .int .i64 0, .int .i64 0, .string ⟨#[]⟩, .int .i64 0, .slice none 0 0, .slice none 0 0, .slice none 0 0] 88) w.heap.size (by simp)).trans (heap_alloc_new w (.cells #[.string a.name, .int .i64 a.kind, .int .i64 a.f, .int .i64 a.i, .string a.s, .int .i64 a.t.typ, .slice A1 n1 c1, .slice A2 n2 c2, .slice A3 n3 c3] 88))
  have hg2 := heap_second w (.cells #[.string a.name, .int .i64 a.kind, .int .i64 a.f, .int .i64 a.i, .string a.s, .int .i64 a.t.typ, .slice A1 n1 c1, .slice A2 n2 c2, .slice A3 n3 c3] 88) (.cells #[.string a.name, .int .i64 a.kind, .int .i64 0, .int .i64 0, .string ⟨#[]⟩, .int .i64 0, .slice none 0 0, .slice none 0 0, .slice none 0 0] 88) (w.heap.size + 1) rfl
  have z0 : ((w.alloc (.cells #[.string a.name, .int .i64 a.kind, .int .i64 a.f, .int .i64 a.i, .string a.s, .int .i64 a.t.typ, .slice A1 n1 c1, .slice A2 n2 c2, .slice A3 n3 c3] 88)).alloc (.cells #[.string a.name, .int .i64 a.kind, .int .i64 0, .int .i64 0, .string ⟨#[]⟩, .int .i64 0, .slice none 0 0, .slice none 0 0, .slice none 0 0] 88)).heap.size = w.heap.size + 2 := by simp
  have HB0 := Lib.hid hb0
  have HG1 := Lib.hid hg1
  have HG2 := Lib.hid hg2
  have HZ0 := Lib.hid z0
  have D := Lib.hid (hd.more hB)
  have E := Lib.hid (he.more hB)
  have I := Lib.hid (hi.more hB)
  have Li := Lib.hid hi.len
  have j3 := hi.int
  have HC := Lib.hid (rchk_any 1 a.f)
  have HT := Lib.hid (rcheck_any a.t ((w.alloc (.cells #[.string a.name, .int .i64 a.kind, .int .i64 a.f, .int .i64 a.i, .string a.s, .int .i64 a.t.typ, .slice A1 n1 c1, .slice A2 n2 c2, .slice A3 n3 c3] 88)).alloc (.cells #[.string a.name, .int .i64 a.kind, .int .i64 0, .int .i64 0, .string ⟨#[]⟩, .int .i64 0, .slice none 0 0, .slice none 0 0, .slice none 0 0] 88)) w.heap.size A1 A2 n1 c1 n2 c2 ((hd.more hB).below hb0 (Nat.le_refl _)) ((he.more hB).below hb0 (Nat.le_refl _)) hb0.size)
  have x0 : ((w.alloc (.cells #[.string a.name, .int .i64 a.kind, .int .i64 a.f, .int .i64 a.i, .string a.s, .int .i64 a.t.typ, .slice A1 n1 c1, .slice A2 n2 c2, .slice A3 n3 c3] 88)).alloc (.cells #[.string a.name, .int .i64 a.kind, .int .i64 0, .int .i64 0, .string ⟨#[]⟩, .int .i64 0, .slice none 0 0, .slice none 0 0, .slice none 0 0] 88)).cell? ⟨w.heap.size, 0, none⟩ = some (.string a.name) := cell_of_row _ _ 0 _ 88 (0, 0) hg1
  have x1 : ((w.alloc (.cells #[.string a.name, .int .i64 a.kind, .int .i64 a.f, .int .i64 a.i, .string a.s, .int .i64 a.t.typ, .slice A1 n1 c1, .slice A2 n2 c2, .slice A3 n3 c3] 88)).alloc (.cells #[.string a.name, .int .i64 a.kind, .int .i64 0, .int .i64 0, .string ⟨#[]⟩, .int .i64 0, .slice none 0 0, .slice none 0 0, .slice none 0 0] 88)).cell? ⟨w.heap.size, 1, none⟩ = some (.int .i64 a.kind) := cell_of_row _ _ 1 _ 88 (0, 0) hg1
  have x2 : ((w.alloc (.cells #[.string a.name, .int .i64 a.kind, .int .i64 a.f, .int .i64 a.i, .string a.s, .int .i64 a.t.typ, .slice A1 n1 c1, .slice A2 n2 c2, .slice A3 n3 c3] 88)).alloc (.cells #[.string a.name, .int .i64 a.kind, .int .i64 0, .int .i64 0, .string ⟨#[]⟩, .int .i64 0, .slice none 0 0, .slice none 0 0, .slice none 0 0] 88)).cell? ⟨w.heap.size, 2, none⟩ = some (.int .i64 a.f) := cell_of_row _ _ 2 _ 88 (0, 0) hg1
  have x3 : ((w.alloc (.cells #[.string a.name, .int .i64 a.kind, .int .i64 a.f, .int .i64 a.i, .string a.s, .int .i64 a.t.typ, .slice A1 n1 c1, .slice A2 n2 c2, .slice A3 n3 c3] 88)).alloc (.cells #[.string a.name, .int .i64 a.kind, .int .i64 0, .int .i64 0, .string ⟨#[]⟩, .int .i64 0, .slice none 0 0, .slice none 0 0, .slice none 0 0] 88)).cell? ⟨w.heap.size, 3, none⟩ = some (.int .i64 a.i) := cell_of_row _ _ 3 _ 88 (0, 0) hg1
  have x4 : ((w.alloc (.cells #[.string a.name, .int .i64 a.kind, .int .i64 a.f, .int .i64 a.i, .string a.s, .int .i64 a.t.typ, .slice A1 n1 c1, .slice A2 n2 c2, .slice A3 n3 c3] 88)).alloc (.cells #[.string a.name, .int .i64 a.kind, .int .i64 0, .int .i64 0, .string ⟨#[]⟩, .int .i64 0, .slice none 0 0, .slice none 0 0, .slice none 0 0] 88)).cell? ⟨w.heap.size, 4, none⟩ = some (.string a.s) := cell_of_row _ _ 4 _ 88 (0, 0) hg1
  have x5 : ((w.alloc (.cells #[.string a.name, .int .i64 a.kind, .int .i64 a.f, .int .i64 a.i, .string a.s, .int .i64 a.t.typ, .slice A1 n1 c1, .slice A2 n2 c2, .slice A3 n3 c3] 88)).alloc (.cells #[.string a.name, .int .i64 a.kind, .int .i64 0, .int .i64 0, .string ⟨#[]⟩, .int .i64 0, .slice none 0 0, .slice none 0 0, .slice none 0 0] 88)).cell? ⟨w.heap.size, 5, none⟩ = some (.int .i64 a.t.typ) := cell_of_row _ _ 5 _ 88 (0, 0) hg1
  have x6 : ((w.alloc (.cells #[.string a.name, .int .i64 a.kind, .int .i64 a.f, .int .i64 a.i, .string a.s, .int .i64 a.t.typ, .slice A1 n1 c1, .slice A2 n2 c2, .slice A3 n3 c3] 88)).alloc (.cells #[.string a.name, .int .i64 a.kind, .int .i64 0, .int .i64 0, .string ⟨#[]⟩, .int .i64 0, .slice none 0 0, .slice none 0 0, .slice none 0 0] 88)).cell? ⟨w.heap.size, 6, none⟩ = some (.slice A1 n1 c1) := cell_of_row _ _ 6 _ 88 (0, 0) hg1
  have x7 : ((w.alloc (.cells #[.string a.name, .int .i64 a.kind, .int .i64 a.f, .int .i64 a.i, .string a.s, .int .i64 a.t.typ, .slice A1 n1 c1, .slice A2 n2 c2, .slice A3 n3 c3] 88)).alloc (.cells #[.string a.name, .int .i64 a.kind, .int .i64 0, .int .i64 0, .string ⟨#[]⟩, .int .i64 0, .slice none 0 0, .slice none 0 0, .slice none 0 0] 88)).cell? ⟨w.heap.size, 7, none⟩ = some (.slice A2 n2 c2) := cell_of_row _ _ 7 _ 88 (0, 0) hg1
  have x8 : ((w.alloc (.cells #[.string a.name, .int .i64 a.kind, .int .i64 a.f, .int .i64 a.i, .string a.s, .int .i64 a.t.typ, .slice A1 n1 c1, .slice A2 n2 c2, .slice A3 n3 c3] 88)).alloc (.cells #[.string a.name, .int .i64 a.kind, .int .i64 0, .int .i64 0, .string ⟨#[]⟩, .int .i64 0, .slice none 0 0, .slice none 0 0, .slice none 0 0] 88)).cell? ⟨w.heap.size, 8, none⟩ = some (.slice A3 n3 c3) := cell_of_row _ _ 8 _ 88 (0, 0) hg1
  by_cases hk1 : a.kind = 1
  · have hk := hk1
    have HB := Lib.hid (show Below w.heap.size w ((w.alloc (.cells #[.string a.name, .int .i64 a.kind, .int .i64 a.f, .int .i64 a.i, .string a.s, .int .i64 a.t.typ, .slice A1 n1 c1, .slice A2 n2 c2, .slice A3 n3 c3] 88)).alloc (.cells #[.string a.name, .int .i64 a.kind, .int .i64 a.f, .int .i64 0, .string ⟨#[]⟩, .int .i64 0, .slice none 0 0, .slice none 0 0, .slice none 0 0] 88)) from ((Below.refl _ _).alloc (Nat.le_refl _) _).alloc (by simp) _)
    have HP := Lib.hid ((Below.heap_alloc (w.alloc (.cells #[.string a.name, .int .i64 a.kind, .int .i64 a.f, .int .i64 a.i, .string a.s, .int .i64 a.t.typ, .slice A1 n1 c1, .slice A2 n2 c2, .slice A3 n3 c3] 88)) (.cells #[.string a.name, .int .i64 a.kind, .int .i64 a.f, .int .i64 0, .string ⟨#[]⟩, .int .i64 0, .slice none 0 0, .slice none 0 0, .slice none 0 0] 88) w.heap.size (by simp)).trans (heap_alloc_new w (.cells #[.string a.name, .int .i64 a.kind, .int .i64 a.f, .int .i64 a.i, .string a.s, .int .i64 a.t.typ, .slice A1 n1 c1, .slice A2 n2 c2, .slice A3 n3 c3] 88)))
    have HQ := Lib.hid (heap_second w (.cells #[.string a.name, .int .i64 a.kind, .int .i64 a.f, .int .i64 a.i, .string a.s, .int .i64 a.t.typ, .slice A1 n1 c1, .slice A2 n2 c2, .slice A3 n3 c3] 88) (.cells #[.string a.name, .int .i64 a.kind, .int .i64 a.f, .int .i64 0, .string ⟨#[]⟩, .int .i64 0, .slice none 0 0, .slice none 0 0, .slice none 0 0] 88) (w.heap.size + 1) rfl)
    clear hb0 hg1 hg2 hd he hi z0
    have HT0 := Lib.hid (told1 hk)
    have e1 : (a.kind == 1) = true := by simp [hk]
    clear hk hk1
    obtain ⟨ok, hok⟩ : ∃ ok, ok = (chk 1 a.f : Bool) := ⟨_, rfl⟩
    have HC1 := Lib.hid (show ∀ w, Calls Try.prog 49 #[.int .i64 1, .int .i64 a.f] w fun e w' => e = .returned (.bool ok) ∧ w = w' from fun w => by rw [hok]; exact rchk_any 1 a.f w)
    have HO := Lib.hid hok
    clear hok
    obtain ⟨nb, hnb⟩ : ∃ nb, nb = decide (a.name.size ≤ 100) := ⟨_, rfl⟩
    have d0 : decide ((a.name.size : Int) ≤ 100) = nb := by rw [hnb]; exact decide_eq_decide.2 (by omega)
    have HN := Lib.hid hnb
    clear hnb
    have HR := Lib.hid (show (ok && nb && sameA a (only1 a)) = attrT a from by rw [HO.out, HN.out]; exact HT0.out)
    have HSA := Lib.hid (fun (wx : World) (WB : Below w.heap.size w wx) => sameA_any a (only1 a) wx w.heap.size A1 A2 A3 none none none n1 c1 n2 c2 n3 c3 0 0 0 0 0 0 (D.out.below WB (Nat.le_refl _)) (E.out.below WB (Nat.le_refl _)) (I.out.below WB (Nat.le_refl _)) (ints0 _ _) (ints0 _ _) (ints0 _ _) WB.size)
    cases ok
    · go_enter Try.func41, Try.ntmps41
      go_wp2_with fail
      refine (HC1.out _).mono ?_
      rintro e w5 ⟨rfl, rfl⟩
      go_wp2
      go_ret
      exact bolB_ret HB.out (by rw [← HR.out]; simp)
    · cases nb
      · go_enter Try.func41, Try.ntmps41
        go_wp2_with fail
        refine (HC1.out _).mono ?_
        rintro e w5 ⟨rfl, rfl⟩
        go_wp2
        go_ret
        exact bolB_ret HB.out (by rw [← HR.out]; simp)
      · go_enter Try.func41, Try.ntmps41
        go_wp2_with fail
        refine (HC1.out _).mono ?_
        rintro e w5 ⟨rfl, rfl⟩
        go_wp2_with fail
        refine (HSA.out _ HB.out).mono ?_
        rintro e w6 ⟨rfl, hb6⟩
        have HB6 := Lib.hid (HB.out.trans (hb6.mono HB.out.size))
        clear hb6
        go_wp2
        go_ret
        exact bolB_ret HB6.out (by rw [← HR.out]; simp)
  · skip
    by_cases hk2 : a.kind = 2
    · have hk := hk2
      have HB := Lib.hid (show Below w.heap.size w ((w.alloc (.cells #[.string a.name, .int .i64 a.kind, .int .i64 a.f, .int .i64 a.i, .string a.s, .int .i64 a.t.typ, .slice A1 n1 c1, .slice A2 n2 c2, .slice A3 n3 c3] 88)).alloc (.cells #[.string a.name, .int .i64 a.kind, .int .i64 0, .int .i64 a.i, .string ⟨#[]⟩, .int .i64 0, .slice none 0 0, .slice none 0 0, .slice none 0 0] 88)) from ((Below.refl _ _).alloc (Nat.le_refl _) _).alloc (by simp) _)
      have HP := Lib.hid ((Below.heap_alloc (w.alloc (.cells #[.string a.name, .int .i64 a.kind, .int .i64 a.f, .int .i64 a.i, .string a.s, .int .i64 a.t.typ, .slice A1 n1 c1, .slice A2 n2 c2, .slice A3 n3 c3] 88)) (.cells #[.string a.name, .int .i64 a.kind, .int .i64 0, .int .i64 a.i, .string ⟨#[]⟩, .int .i64 0, .slice none 0 0, .slice none 0 0, .slice none 0 0] 88) w.heap.size (by simp)).trans (heap_alloc_new w (.cells #[.string a.name, .int .i64 a.kind, .int .i64 a.f, .int .i64 a.i, .string a.s, .int .i64 a.t.typ, .slice A1 n1 c1, .slice A2 n2 c2, .slice A3 n3 c3] 88)))
      have HQ := Lib.hid (heap_second w (.cells #[.string a.name, .int .i64 a.kind, .int .i64 a.f, .int .i64 a.i, .string a.s, .int .i64 a.t.typ, .slice A1 n1 c1, .slice A2 n2 c2, .slice A3 n3 c3] 88) (.cells #[.string a.name, .int .i64 a.kind, .int .i64 0, .int .i64 a.i, .string ⟨#[]⟩, .int .i64 0, .slice none 0 0, .slice none 0 0, .slice none 0 0] 88) (w.heap.size + 1) rfl)
      clear hb0 hg1 hg2 hd he hi z0
      have HT0 := Lib.hid (told2 hk)
      have e1 : (a.kind == 1) = false := by simp [hk]
      have e2 : (a.kind == 2) = true := by simp [hk]
      clear hk hk1 hk2
      obtain ⟨ok, hok⟩ : ∃ ok, ok = (true : Bool) := ⟨_, rfl⟩
      have HO := Lib.hid hok
      clear hok
      obtain ⟨nb, hnb⟩ : ∃ nb, nb = decide (a.name.size ≤ 100) := ⟨_, rfl⟩
      have d0 : decide ((a.name.size : Int) ≤ 100) = nb := by rw [hnb]; exact decide_eq_decide.2 (by omega)
      have HN := Lib.hid hnb
      clear hnb
      have HR := Lib.hid (show (ok && nb && sameA a (only2 a)) = attrT a from by rw [HO.out, HN.out]; exact HT0.out)
      have hok2 := HO.out
      have HSA := Lib.hid (fun (wx : World) (WB : Below w.heap.size w wx) => sameA_any a (only2 a) wx w.heap.size A1 A2 A3 none none none n1 c1 n2 c2 n3 c3 0 0 0 0 0 0 (D.out.below WB (Nat.le_refl _)) (E.out.below WB (Nat.le_refl _)) (I.out.below WB (Nat.le_refl _)) (ints0 _ _) (ints0 _ _) (ints0 _ _) WB.size)
      obtain rfl : ok = true := HO.out
      cases nb
      · go_enter Try.func41, Try.ntmps41
        go_wp2
        go_ret
        exact bolB_ret HB.out (by rw [← HR.out]; simp)
      · go_enter Try.func41, Try.ntmps41
        go_wp2_with fail
        refine (HSA.out _ HB.out).mono ?_
        rintro e w6 ⟨rfl, hb6⟩
        have HB6 := Lib.hid (HB.out.trans (hb6.mono HB.out.size))
        clear hb6
        go_wp2
        go_ret
        exact bolB_ret HB6.out (by rw [← HR.out]; simp)
    · skip
      by_cases hk3 : a.kind = 3
      · have hk := hk3
        have HB := Lib.hid (show Below w.heap.size w ((w.alloc (.cells #[.string a.name, .int .i64 a.kind, .int .i64 a.f, .int .i64 a.i, .string a.s, .int .i64 a.t.typ, .slice A1 n1 c1, .slice A2 n2 c2, .slice A3 n3 c3] 88)).alloc (.cells #[.string a.name, .int .i64 a.kind, .int .i64 0, .int .i64 0, .string a.s, .int .i64 0, .slice none 0 0, .slice none 0 0, .slice none 0 0] 88)) from ((Below.refl _ _).alloc (Nat.le_refl _) _).alloc (by simp) _)
        have HP := Lib.hid ((Below.heap_alloc (w.alloc (.cells #[.string a.name, .int .i64 a.kind, .int .i64 a.f, .int .i64 a.i, .string a.s, .int .i64 a.t.typ, .slice A1 n1 c1, .slice A2 n2 c2, .slice A3 n3 c3] 88)) (.cells #[.string a.name, .int .i64 a.kind, .int .i64 0, .int .i64 0, .string a.s, .int .i64 0, .slice none 0 0, .slice none 0 0, .slice none 0 0] 88) w.heap.size (by simp)).trans (heap_alloc_new w (.cells #[.string a.name, .int .i64 a.kind, .int .i64 a.f, .int .i64 a.i, .string a.s, .int .i64 a.t.typ, .slice A1 n1 c1, .slice A2 n2 c2, .slice A3 n3 c3] 88)))
        have HQ := Lib.hid (heap_second w (.cells #[.string a.name, .int .i64 a.kind, .int .i64 a.f, .int .i64 a.i, .string a.s, .int .i64 a.t.typ, .slice A1 n1 c1, .slice A2 n2 c2, .slice A3 n3 c3] 88) (.cells #[.string a.name, .int .i64 a.kind, .int .i64 0, .int .i64 0, .string a.s, .int .i64 0, .slice none 0 0, .slice none 0 0, .slice none 0 0] 88) (w.heap.size + 1) rfl)
        clear hb0 hg1 hg2 hd he hi z0
        have HT0 := Lib.hid (told3 hk)
        have e1 : (a.kind == 1) = false := by simp [hk]
        have e2 : (a.kind == 2) = false := by simp [hk]
        have e3 : (a.kind == 3) = true := by simp [hk]
        clear hk hk1 hk2 hk3
        obtain ⟨ok, hok⟩ : ∃ ok, ok = (decide (a.s.size ≤ 100) : Bool) := ⟨_, rfl⟩
        have d1 : decide ((a.s.size : Int) ≤ 100) = ok := by rw [hok]; exact decide_eq_decide.2 (by omega)
        have HO := Lib.hid hok
        clear hok
        obtain ⟨nb, hnb⟩ : ∃ nb, nb = decide (a.name.size ≤ 100) := ⟨_, rfl⟩
        have d0 : decide ((a.name.size : Int) ≤ 100) = nb := by rw [hnb]; exact decide_eq_decide.2 (by omega)
        have HN := Lib.hid hnb
        clear hnb
        have HR := Lib.hid (show (ok && nb && sameA a (only3 a)) = attrT a from by rw [HO.out, HN.out]; exact HT0.out)
        have HSA := Lib.hid (fun (wx : World) (WB : Below w.heap.size w wx) => sameA_any a (only3 a) wx w.heap.size A1 A2 A3 none none none n1 c1 n2 c2 n3 c3 0 0 0 0 0 0 (D.out.below WB (Nat.le_refl _)) (E.out.below WB (Nat.le_refl _)) (I.out.below WB (Nat.le_refl _)) (ints0 _ _) (ints0 _ _) (ints0 _ _) WB.size)
        cases ok
        · go_enter Try.func41, Try.ntmps41
          go_wp2
          go_ret
          exact bolB_ret HB.out (by rw [← HR.out]; simp)
        · cases nb
          · go_enter Try.func41, Try.ntmps41
            go_wp2
            go_ret
            exact bolB_ret HB.out (by rw [← HR.out]; simp)
          · go_enter Try.func41, Try.ntmps41
            go_wp2_with fail
            refine (HSA.out _ HB.out).mono ?_
            rintro e w6 ⟨rfl, hb6⟩
            have HB6 := Lib.hid (HB.out.trans (hb6.mono HB.out.size))
            clear hb6
            go_wp2
            go_ret
            exact bolB_ret HB6.out (by rw [← HR.out]; simp)
      · skip
        by_cases hk4 : a.kind = 4
        · have hk := hk4
          have HB := Lib.hid (show Below w.heap.size w ((w.alloc (.cells #[.string a.name, .int .i64 a.kind, .int .i64 a.f, .int .i64 a.i, .string a.s, .int .i64 a.t.typ, .slice A1 n1 c1, .slice A2 n2 c2, .slice A3 n3 c3] 88)).alloc (.cells #[.string a.name, .int .i64 a.kind, .int .i64 0, .int .i64 0, .string ⟨#[]⟩, .int .i64 a.t.typ, .slice A1 n1 c1, .slice A2 n2 c2, .slice none 0 0] 88)) from ((Below.refl _ _).alloc (Nat.le_refl _) _).alloc (by simp) _)
          have HP := Lib.hid ((Below.heap_alloc (w.alloc (.cells #[.string a.name, .int .i64 a.kind, .int .i64 a.f, .int .i64 a.i, .string a.s, .int .i64 a.t.typ, .slice A1 n1 c1, .slice A2 n2 c2, .slice A3 n3 c3] 88)) (.cells #[.string a.name, .int .i64 a.kind, .int .i64 0, .int .i64 0, .string ⟨#[]⟩, .int .i64 a.t.typ, .slice A1 n1 c1, .slice A2 n2 c2, .slice none 0 0] 88) w.heap.size (by simp)).trans (heap_alloc_new w (.cells #[.string a.name, .int .i64 a.kind, .int .i64 a.f, .int .i64 a.i, .string a.s, .int .i64 a.t.typ, .slice A1 n1 c1, .slice A2 n2 c2, .slice A3 n3 c3] 88)))
          have HQ := Lib.hid (heap_second w (.cells #[.string a.name, .int .i64 a.kind, .int .i64 a.f, .int .i64 a.i, .string a.s, .int .i64 a.t.typ, .slice A1 n1 c1, .slice A2 n2 c2, .slice A3 n3 c3] 88) (.cells #[.string a.name, .int .i64 a.kind, .int .i64 0, .int .i64 0, .string ⟨#[]⟩, .int .i64 a.t.typ, .slice A1 n1 c1, .slice A2 n2 c2, .slice none 0 0] 88) (w.heap.size + 1) rfl)
          clear hb0 hg1 hg2 hd he hi z0
          have HT0 := Lib.hid (told4 hk)
          have HT4 := Lib.hid (rcheck_any a.t ((w.alloc (.cells #[.string a.name, .int .i64 a.kind, .int .i64 a.f, .int .i64 a.i, .string a.s, .int .i64 a.t.typ, .slice A1 n1 c1, .slice A2 n2 c2, .slice A3 n3 c3] 88)).alloc (.cells #[.string a.name, .int .i64 a.kind, .int .i64 0, .int .i64 0, .string ⟨#[]⟩, .int .i64 a.t.typ, .slice A1 n1 c1, .slice A2 n2 c2, .slice none 0 0] 88)) w.heap.size A1 A2 n1 c1 n2 c2 (D.out.below HB.out (Nat.le_refl _)) (E.out.below HB.out (Nat.le_refl _)) HB.out.size)
          have e1 : (a.kind == 1) = false := by simp [hk]
          have e2 : (a.kind == 2) = false := by simp [hk]
          have e3 : (a.kind == 3) = false := by simp [hk]
          have e4 : (a.kind == 4) = true := by simp [hk]
          clear hk hk1 hk2 hk3 hk4
          obtain ⟨ok, hok⟩ : ∃ ok, ok = ((tchk a.t == 0) : Bool) := ⟨_, rfl⟩
          have HO := Lib.hid hok
          clear hok
          obtain ⟨nb, hnb⟩ : ∃ nb, nb = decide (a.name.size ≤ 100) := ⟨_, rfl⟩
          have d0 : decide ((a.name.size : Int) ≤ 100) = nb := by rw [hnb]; exact decide_eq_decide.2 (by omega)
          have HN := Lib.hid hnb
          clear hnb
          have HR := Lib.hid (show (ok && nb && sameA a (only4 a)) = attrT a from by rw [HO.out, HN.out]; exact HT0.out)
          have d4 : (tchk a.t == 0) = ok := HO.out.symm
          have HSA := Lib.hid (fun (wx : World) (WB : Below w.heap.size w wx) => sameA_any a (only4 a) wx w.heap.size A1 A2 A3 A1 A2 none n1 c1 n2 c2 n3 c3 n1 c1 n2 c2 0 0 (D.out.below WB (Nat.le_refl _)) (E.out.below WB (Nat.le_refl _)) (I.out.below WB (Nat.le_refl _)) (D.out.below WB (Nat.le_refl _)) (E.out.below WB (Nat.le_refl _)) (ints0 _ _) WB.size)
          have hzk : ((w.alloc (.cells #[.string a.name, .int .i64 a.kind, .int .i64 a.f, .int .i64 a.i, .string a.s, .int .i64 a.t.typ, .slice A1 n1 c1, .slice A2 n2 c2, .slice A3 n3 c3] 88)).alloc (.cells #[.string a.name, .int .i64 a.kind, .int .i64 0, .int .i64 0, .string ⟨#[]⟩, .int .i64 a.t.typ, .slice A1 n1 c1, .slice A2 n2 c2, .slice none 0 0] 88)).heap.size = w.heap.size + 2 := by simp
          cases ok
          · go_enter Try.func41, Try.ntmps41
            go_wp2_with fail
            refine HT4.out.mono ?_
            rintro e w5 ⟨rfl, hb5⟩
            have z5 := HB.out.size
            have hp5 := (hb5.block w.heap.size (by rw [hzk]; omega)).trans HP.out
            have hq5 := (hb5.block (w.heap.size + 1) (by rw [hzk]; omega)).trans HQ.out
            have HB5 := Lib.hid (HB.out.trans (hb5.mono HB.out.size))
            have x0 := cell_of_row _ _ 0 _ 88 (0, 0) hp5
            have x1 := cell_of_row _ _ 1 _ 88 (0, 0) hp5
            have x2 := cell_of_row _ _ 2 _ 88 (0, 0) hp5
            have x3 := cell_of_row _ _ 3 _ 88 (0, 0) hp5
            have x4 := cell_of_row _ _ 4 _ 88 (0, 0) hp5
            have x5 := cell_of_row _ _ 5 _ 88 (0, 0) hp5
            have x6 := cell_of_row _ _ 6 _ 88 (0, 0) hp5
            have x7 := cell_of_row _ _ 7 _ 88 (0, 0) hp5
            have x8 := cell_of_row _ _ 8 _ 88 (0, 0) hp5
            have y0 := cell_of_row _ _ 0 _ 88 (0, 0) hq5
            have y1 := cell_of_row _ _ 1 _ 88 (0, 0) hq5
            have y2 := cell_of_row _ _ 2 _ 88 (0, 0) hq5
            have y3 := cell_of_row _ _ 3 _ 88 (0, 0) hq5
            have y4 := cell_of_row _ _ 4 _ 88 (0, 0) hq5
            have y5 := cell_of_row _ _ 5 _ 88 (0, 0) hq5
            have y6 := cell_of_row _ _ 6 _ 88 (0, 0) hq5
            have y7 := cell_of_row _ _ 7 _ 88 (0, 0) hq5
            have y8 := cell_of_row _ _ 8 _ 88 (0, 0) hq5
            simp only [List.getElem?_toArray, List.getElem?_cons_zero, List.getElem?_cons_succ] at x0 y0 x1 y1 x2 y2 x3 y3 x4 y4 x5 y5 x6 y6 x7 y7 x8 y8
            clear hb5 hp5 hq5
            go_wp2
            go_ret
            exact bolB_ret HB5.out (by rw [← HR.out]; simp)
          · cases nb
            · go_enter Try.func41, Try.ntmps41
              go_wp2_with fail
              refine HT4.out.mono ?_
              rintro e w5 ⟨rfl, hb5⟩
              have z5 := HB.out.size
              have hp5 := (hb5.block w.heap.size (by rw [hzk]; omega)).trans HP.out
              have hq5 := (hb5.block (w.heap.size + 1) (by rw [hzk]; omega)).trans HQ.out
              have HB5 := Lib.hid (HB.out.trans (hb5.mono HB.out.size))
              have x0 := cell_of_row _ _ 0 _ 88 (0, 0) hp5
              have x1 := cell_of_row _ _ 1 _ 88 (0, 0) hp5
              have x2 := cell_of_row _ _ 2 _ 88 (0, 0) hp5
              have x3 := cell_of_row _ _ 3 _ 88 (0, 0) hp5
              have x4 := cell_of_row _ _ 4 _ 88 (0, 0) hp5
              have x5 := cell_of_row _ _ 5 _ 88 (0, 0) hp5
              have x6 := cell_of_row _ _ 6 _ 88 (0, 0) hp5
              have x7 := cell_of_row _ _ 7 _ 88 (0, 0) hp5
              have x8 := cell_of_row _ _ 8 _ 88 (0, 0) hp5
              have y0 := cell_of_row _ _ 0 _ 88 (0, 0) hq5
              have y1 := cell_of_row _ _ 1 _ 88 (0, 0) hq5
              have y2 := cell_of_row _ _ 2 _ 88 (0, 0) hq5
              have y3 := cell_of_row _ _ 3 _ 88 (0, 0) hq5
              have y4 := cell_of_row _ _ 4 _ 88 (0, 0) hq5
              have y5 := cell_of_row _ _ 5 _ 88 (0, 0) hq5
              have y6 := cell_of_row _ _ 6 _ 88 (0, 0) hq5
              have y7 := cell_of_row _ _ 7 _ 88 (0, 0) hq5
              have y8 := cell_of_row _ _ 8 _ 88 (0, 0) hq5
              simp only [List.getElem?_toArray, List.getElem?_cons_zero, List.getElem?_cons_succ] at x0 y0 x1 y1 x2 y2 x3 y3 x4 y4 x5 y5 x6 y6 x7 y7 x8 y8
              clear hb5 hp5 hq5
              go_wp2
              go_ret
              exact bolB_ret HB5.out (by rw [← HR.out]; simp)
            · go_enter Try.func41, Try.ntmps41
              go_wp2_with fail
              refine HT4.out.mono ?_
              rintro e w5 ⟨rfl, hb5⟩
              have z5 := HB.out.size
              have hp5 := (hb5.block w.heap.size (by rw [hzk]; omega)).trans HP.out
              have hq5 := (hb5.block (w.heap.size + 1) (by rw [hzk]; omega)).trans HQ.out
              have HB5 := Lib.hid (HB.out.trans (hb5.mono HB.out.size))
              have x0 := cell_of_row _ _ 0 _ 88 (0, 0) hp5
              have x1 := cell_of_row _ _ 1 _ 88 (0, 0) hp5
              have x2 := cell_of_row _ _ 2 _ 88 (0, 0) hp5
              have x3 := cell_of_row _ _ 3 _ 88 (0, 0) hp5
              have x4 := cell_of_row _ _ 4 _ 88 (0, 0) hp5
              have x5 := cell_of_row _ _ 5 _ 88 (0, 0) hp5
              have x6 := cell_of_row _ _ 6 _ 88 (0, 0) hp5
              have x7 := cell_of_row _ _ 7 _ 88 (0, 0) hp5
              have x8 := cell_of_row _ _ 8 _ 88 (0, 0) hp5
              have y0 := cell_of_row _ _ 0 _ 88 (0, 0) hq5
              have y1 := cell_of_row _ _ 1 _ 88 (0, 0) hq5
              have y2 := cell_of_row _ _ 2 _ 88 (0, 0) hq5
              have y3 := cell_of_row _ _ 3 _ 88 (0, 0) hq5
              have y4 := cell_of_row _ _ 4 _ 88 (0, 0) hq5
              have y5 := cell_of_row _ _ 5 _ 88 (0, 0) hq5
              have y6 := cell_of_row _ _ 6 _ 88 (0, 0) hq5
              have y7 := cell_of_row _ _ 7 _ 88 (0, 0) hq5
              have y8 := cell_of_row _ _ 8 _ 88 (0, 0) hq5
              simp only [List.getElem?_toArray, List.getElem?_cons_zero, List.getElem?_cons_succ] at x0 y0 x1 y1 x2 y2 x3 y3 x4 y4 x5 y5 x6 y6 x7 y7 x8 y8
              clear hb5 hp5 hq5
              go_wp2_with fail
              refine (HSA.out _ HB5.out).mono ?_
              rintro e w6 ⟨rfl, hb6⟩
              have HB6 := Lib.hid (HB5.out.trans (hb6.mono HB5.out.size))
              clear hb6
              go_wp2
              go_ret
              exact bolB_ret HB6.out (by rw [← HR.out]; simp)
        · skip
          by_cases hk7 : a.kind = 7
          · have hk := hk7
            have HB := Lib.hid (show Below w.heap.size w ((w.alloc (.cells #[.string a.name, .int .i64 a.kind, .int .i64 a.f, .int .i64 a.i, .string a.s, .int .i64 a.t.typ, .slice A1 n1 c1, .slice A2 n2 c2, .slice A3 n3 c3] 88)).alloc (.cells #[.string a.name, .int .i64 a.kind, .int .i64 0, .int .i64 0, .string ⟨#[]⟩, .int .i64 0, .slice none 0 0, .slice none 0 0, .slice A3 n3 c3] 88)) from ((Below.refl _ _).alloc (Nat.le_refl _) _).alloc (by simp) _)
            have HP := Lib.hid ((Below.heap_alloc (w.alloc (.cells #[.string a.name, .int .i64 a.kind, .int .i64 a.f, .int .i64 a.i, .string a.s, .int .i64 a.t.typ, .slice A1 n1 c1, .slice A2 n2 c2, .slice A3 n3 c3] 88)) (.cells #[.string a.name, .int .i64 a.kind, .int .i64 0, .int .i64 0, .string ⟨#[]⟩, .int .i64 0, .slice none 0 0, .slice none 0 0, .slice A3 n3 c3] 88) w.heap.size (by simp)).trans (heap_alloc_new w (.cells #[.string a.name, .int .i64 a.kind, .int .i64 a.f, .int .i64 a.i, .string a.s, .int .i64 a.t.typ, .slice A1 n1 c1, .slice A2 n2 c2, .slice A3 n3 c3] 88)))
            have HQ := Lib.hid (heap_second w (.cells #[.string a.name, .int .i64 a.kind, .int .i64 a.f, .int .i64 a.i, .string a.s, .int .i64 a.t.typ, .slice A1 n1 c1, .slice A2 n2 c2, .slice A3 n3 c3] 88) (.cells #[.string a.name, .int .i64 a.kind, .int .i64 0, .int .i64 0, .string ⟨#[]⟩, .int .i64 0, .slice none 0 0, .slice none 0 0, .slice A3 n3 c3] 88) (w.heap.size + 1) rfl)
            clear hb0 hg1 hg2 hd he hi z0
            have HT0 := Lib.hid (told7 hk)
            have e1 : (a.kind == 1) = false := by simp [hk]
            have e2 : (a.kind == 2) = false := by simp [hk]
            have e3 : (a.kind == 3) = false := by simp [hk]
            have e4 : (a.kind == 4) = false := by simp [hk]
            have e7 : (a.kind == 7) = true := by simp [hk]
            clear hk hk1 hk2 hk3 hk4 hk7
            obtain ⟨ok, hok⟩ : ∃ ok, ok = (decide (a.ints.length ≤ 20) : Bool) := ⟨_, rfl⟩
            have d1 : decide ((a.ints.length : Int) ≤ 20) = ok := by rw [hok]; exact decide_eq_decide.2 (by omega)
            have d1 : decide ((n3 : Int) ≤ 20) = ok := by rw [← d1, Li.out]
            have HO := Lib.hid hok
            clear hok
            obtain ⟨nb, hnb⟩ : ∃ nb, nb = decide (a.name.size ≤ 100) := ⟨_, rfl⟩
            have d0 : decide ((a.name.size : Int) ≤ 100) = nb := by rw [hnb]; exact decide_eq_decide.2 (by omega)
            have HN := Lib.hid hnb
            clear hnb
            have HR := Lib.hid (show (ok && nb && sameA a (only7 a)) = attrT a from by rw [HO.out, HN.out]; exact HT0.out)
            have HSA := Lib.hid (fun (wx : World) (WB : Below w.heap.size w wx) => sameA_any a (only7 a) wx w.heap.size A1 A2 A3 none none A3 n1 c1 n2 c2 n3 c3 0 0 0 0 n3 c3 (D.out.below WB (Nat.le_refl _)) (E.out.below WB (Nat.le_refl _)) (I.out.below WB (Nat.le_refl _)) (ints0 _ _) (ints0 _ _) (I.out.below WB (Nat.le_refl _)) WB.size)
            cases ok
            · go_enter Try.func41, Try.ntmps41
              go_wp2
              go_ret
              exact bolB_ret HB.out (by rw [← HR.out]; simp)
            · cases nb
              · go_enter Try.func41, Try.ntmps41
                go_wp2
                go_ret
                exact bolB_ret HB.out (by rw [← HR.out]; simp)
              · go_enter Try.func41, Try.ntmps41
                go_wp2_with fail
                refine (HSA.out _ HB.out).mono ?_
                rintro e w6 ⟨rfl, hb6⟩
                have HB6 := Lib.hid (HB.out.trans (hb6.mono HB.out.size))
                clear hb6
                go_wp2
                go_ret
                exact bolB_ret HB6.out (by rw [← HR.out]; simp)
          · skip
            have HB := Lib.hid (show Below w.heap.size w ((w.alloc (.cells #[.string a.name, .int .i64 a.kind, .int .i64 a.f, .int .i64 a.i, .string a.s, .int .i64 a.t.typ, .slice A1 n1 c1, .slice A2 n2 c2, .slice A3 n3 c3] 88)).alloc (.cells #[.string a.name, .int .i64 a.kind, .int .i64 0, .int .i64 0, .string ⟨#[]⟩, .int .i64 0, .slice none 0 0, .slice none 0 0, .slice none 0 0] 88)) from ((Below.refl _ _).alloc (Nat.le_refl _) _).alloc (by simp) _)
            have HP := Lib.hid ((Below.heap_alloc (w.alloc (.cells #[.string a.name, .int .i64 a.kind, .int .i64 a.f, .int .i64 a.i, .string a.s, .int .i64 a.t.typ, .slice A1 n1 c1, .slice A2 n2 c2, .slice A3 n3 c3] 88)) (.cells #[.string a.name, .int .i64 a.kind, .int .i64 0, .int .i64 0, .string ⟨#[]⟩, .int .i64 0, .slice none 0 0, .slice none 0 0, .slice none 0 0] 88) w.heap.size (by simp)).trans (heap_alloc_new w (.cells #[.string a.name, .int .i64 a.kind, .int .i64 a.f, .int .i64 a.i, .string a.s, .int .i64 a.t.typ, .slice A1 n1 c1, .slice A2 n2 c2, .slice A3 n3 c3] 88)))
            have HQ := Lib.hid (heap_second w (.cells #[.string a.name, .int .i64 a.kind, .int .i64 a.f, .int .i64 a.i, .string a.s, .int .i64 a.t.typ, .slice A1 n1 c1, .slice A2 n2 c2, .slice A3 n3 c3] 88) (.cells #[.string a.name, .int .i64 a.kind, .int .i64 0, .int .i64 0, .string ⟨#[]⟩, .int .i64 0, .slice none 0 0, .slice none 0 0, .slice none 0 0] 88) (w.heap.size + 1) rfl)
            clear hb0 hg1 hg2 hd he hi z0
            have HT0 := Lib.hid (told0 hk1 hk2 hk3 hk4 hk7 a)
            have e1 : (a.kind == 1) = false := by simp [hk1]
            have e2 : (a.kind == 2) = false := by simp [hk2]
            have e3 : (a.kind == 3) = false := by simp [hk3]
            have e4 : (a.kind == 4) = false := by simp [hk4]
            have e7 : (a.kind == 7) = false := by simp [hk7]
            clear hk1 hk2 hk3 hk4 hk7
            go_enter Try.func41, Try.ntmps41
            go_wp2
            go_ret
            exact bolB_ret HB.out (by rw [← HT0.out]; simp)
end Go.Proofs.Ytkcnpnnflbibiaa
