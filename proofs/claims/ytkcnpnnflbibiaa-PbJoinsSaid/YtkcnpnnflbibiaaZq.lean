/- The walks: whether two tensors, two attributes are the same. The walks: whether two attributes are the same. -/
import Derived.Test.YtkcnpnnflbibiaaEf
import Derived.Test.YtkcnpnnflbibiaaZi
set_option linter.unusedVariables false
/- The walks: whether two tensors, two attributes are the same. -/
namespace Go.Proofs.Ytkcnpnnflbibiaa
open Go.RowKit

def sameT (t u : Tn) : Bool := (t.typ == u.typ) && decide (t.dims = u.dims) && decide (t.data = u.data)
set_option maxRecDepth 100000 in
set_option maxHeartbeats 3200000 in
theorem sameT_any (t u : Tn) (w : World) (B : Nat) (A1 A2 A3 A4 : Option Addr) (n1 c1 n2 c2 n3 c3 n4 c4 : Nat) (h1 : Ints w B A1 n1 t.dims) (h2 : Ints w B A2 n2 t.data) (h3 : Ints w B A3 n3 u.dims) (h4 : Ints w B A4 n4 u.data) (hB : B ≤ w.heap.size) :
    Calls Try.prog 27 #[.agg #[.int .i64 t.typ, .slice A1 n1 c1, .slice A2 n2 c2], .agg #[.int .i64 u.typ, .slice A3 n3 c3, .slice A4 n4 c4]] w (BolB (sameT t u) w) := by
  have hb0 : Below w.heap.size w ((w.alloc (.cells #[.int .i64 t.typ, .slice A1 n1 c1, .slice A2 n2 c2] 47)).alloc (.cells #[.int .i64 u.typ, .slice A3 n3 c3, .slice A4 n4 c4] 47)) := ((Below.refl _ _).alloc (Nat.le_refl _) _).alloc (by simp) _
  have hg1 := (Below.heap_alloc (w.alloc (.cells #[.int .i64 t.typ, .slice A1 n1 c1, .slice A2 n2 c2] 47)) (.cells #[.int .i64 u.typ, .slice A3 n3 c3, .slice A4 n4 c4] 47) w.heap.size (by simp)).trans (heap_alloc_new w (.cells #[.int .i64 t.typ, .slice A1 n1 c1, .slice A2 n2 c2] 47))
  have hg2 := heap_second w (.cells #[.int .i64 t.typ, .slice A1 n1 c1, .slice A2 n2 c2] 47) (.cells #[.int .i64 u.typ, .slice A3 n3 c3, .slice A4 n4 c4] 47) (w.heap.size + 1) rfl
  have HS := Lib.hid (fun (b : Bool) (hb : b = decide (t.dims = u.dims)) => same_any ((w.alloc (.cells #[.int .i64 t.typ, .slice A1 n1 c1, .slice A2 n2 c2] 47)).alloc (.cells #[.int .i64 u.typ, .slice A3 n3 c3, .slice A4 n4 c4] 47)) w.heap.size w.heap.size A1 A3 n1 c1 n3 c3 t.dims u.dims (h1.below (hb0.mono hB) hB) (h3.below (hb0.mono hB) hB) b hb)
  have H2 := Lib.hid (h2.below (hb0.mono hB) hB)
  have H4 := Lib.hid (h4.below (hb0.mono hB) hB)
  have L2 := Lib.hid h2.len
  have L4 := Lib.hid h4.len
  have i2 := h2.int
  have i4 := h4.int
  have HB0 := Lib.hid hb0
  have HG1 := Lib.hid hg1
  have HG2 := Lib.hid hg2
  have x0 : ((w.alloc (.cells #[.int .i64 t.typ, .slice A1 n1 c1, .slice A2 n2 c2] 47)).alloc (.cells #[.int .i64 u.typ, .slice A3 n3 c3, .slice A4 n4 c4] 47)).cell? ⟨w.heap.size, 0, none⟩ = some (.int .i64 t.typ) := cell_of_row _ _ 0 _ 47 (0, 0) hg1
  have x1 : ((w.alloc (.cells #[.int .i64 t.typ, .slice A1 n1 c1, .slice A2 n2 c2] 47)).alloc (.cells #[.int .i64 u.typ, .slice A3 n3 c3, .slice A4 n4 c4] 47)).cell? ⟨w.heap.size, 1, none⟩ = some (.slice A1 n1 c1) := cell_of_row _ _ 1 _ 47 (0, 0) hg1
  have x2 : ((w.alloc (.cells #[.int .i64 t.typ, .slice A1 n1 c1, .slice A2 n2 c2] 47)).alloc (.cells #[.int .i64 u.typ, .slice A3 n3 c3, .slice A4 n4 c4] 47)).cell? ⟨w.heap.size, 2, none⟩ = some (.slice A2 n2 c2) := cell_of_row _ _ 2 _ 47 (0, 0) hg1
  have y0 : ((w.alloc (.cells #[.int .i64 t.typ, .slice A1 n1 c1, .slice A2 n2 c2] 47)).alloc (.cells #[.int .i64 u.typ, .slice A3 n3 c3, .slice A4 n4 c4] 47)).cell? ⟨w.heap.size + 1, 0, none⟩ = some (.int .i64 u.typ) := cell_of_row _ _ 0 _ 47 (0, 0) hg2
  have y1 : ((w.alloc (.cells #[.int .i64 t.typ, .slice A1 n1 c1, .slice A2 n2 c2] 47)).alloc (.cells #[.int .i64 u.typ, .slice A3 n3 c3, .slice A4 n4 c4] 47)).cell? ⟨w.heap.size + 1, 1, none⟩ = some (.slice A3 n3 c3) := cell_of_row _ _ 1 _ 47 (0, 0) hg2
  have y2 : ((w.alloc (.cells #[.int .i64 t.typ, .slice A1 n1 c1, .slice A2 n2 c2] 47)).alloc (.cells #[.int .i64 u.typ, .slice A3 n3 c3, .slice A4 n4 c4] 47)).cell? ⟨w.heap.size + 1, 2, none⟩ = some (.slice A4 n4 c4) := cell_of_row _ _ 2 _ 47 (0, 0) hg2
  clear hb0 hg1 hg2 h1 h2 h3 h4
  by_cases e1 : t.typ = u.typ
  case neg =>
    have b1 : (t.typ == u.typ) = false := by simpa using e1
    have b1' : (t.typ != u.typ) = true := by simpa using e1
    have Hr := Lib.hid (show sameT t u = false by simp [sameT, e1])
    clear e1
    go_enter Try.func27, Try.ntmps27
    go_wp2
    go_ret
    exact bolB_ret HB0.out (by rw [Hr.out])
  case pos =>
    have b1 : (t.typ == u.typ) = true := by simpa using e1
    have b1' : (t.typ != u.typ) = false := by simpa using e1
    by_cases e2 : t.dims = u.dims
    case neg =>
      have HS1 := Lib.hid (HS.out false (by simp [e2]))
      have Hr := Lib.hid (show sameT t u = false by simp [sameT, e2])
      clear e1 e2
      go_enter Try.func27, Try.ntmps27
      go_wp2_with fail
      refine HS1.out.mono ?_
      rintro e w1 ⟨rfl, q1, rfl⟩
      go_wp2
      go_ret
      exact bolB_ret (below_drewN HB0.out _) (by rw [Hr.out])
    case pos =>
      have HS1 := Lib.hid (HS.out true (by simp [e2]))
      by_cases hn : n2 = n4
      case neg =>
        have hne : ((n2 : Int) == n4) = false := by simp; omega
        have hne' : ((n2 : Int) != n4) = true := by simp; omega
        have Hr := Lib.hid (show sameT t u = false by
          have : ¬ t.data = u.data := fun e => hn (by rw [← L2.out, ← L4.out, e])
          simp [sameT, this])
        clear e1 e2
        go_enter Try.func27, Try.ntmps27
        go_wp2_with fail
        refine HS1.out.mono ?_
        rintro e w1 ⟨rfl, q1, rfl⟩
        go_wp2
        go_ret
        exact bolB_ret (below_drewN HB0.out _) (by rw [Hr.out])
      case pos =>
        subst hn
        have Hr := Lib.hid (show sameT t u = decide (t.data = u.data) by simp [sameT, e1, e2])
        clear e1 e2
        go_enter Try.func27, Try.ntmps27
        go_wp2_with fail
        generalize ((w.alloc (.cells #[.int .i64 t.typ, .slice A1 n1 c1, .slice A2 n2 c2] 47)).alloc (.cells #[.int .i64 u.typ, .slice A3 n3 c3, .slice A4 n2 c4] 47)) = w0 at HB0 HG1 HG2 HS1 H2 H4 x0 x1 x2 y0 y1 y2 ⊢
        refine HS1.out.mono ?_
        rintro e w1 ⟨rfl, q1, rfl⟩
        go_wp2_with fail
        go_loopw [5] (fun i wr => ∃ k : Nat, k ≤ n2 ∧ i = .int .i64 k ∧ (∀ j, j < k → ix t.data j = ix u.data j) ∧ ∃ q, wr = w0.drewN q) (fun i _ => n2 - (intOf i).toNat)
        case atStart => exact ⟨0, Nat.zero_le _, rfl, fun j hj => absurd hj (by omega), q1, rfl⟩
        case round =>
          obtain ⟨k, hk, rfl, hall, q, rfl⟩ := hrel
          have Hall := Lib.hid hall
          clear hall
          by_cases hlt : k < n2
          · obtain ⟨b1, off1, rfl, hb1, hc1⟩ := H2.out.get hlt
            obtain ⟨b2, off2, rfl, hb2, hc2⟩ := H4.out.get hlt
            by_cases he : ix t.data k = ix u.data k
            · have he' : (ix t.data k != ix u.data k) = false := by simp [he]
              have He := Lib.hid he
              clear he
              go_wp2
              go_quiet (fail)
              go_wp2
              go_roundw
              case rel => exact ⟨k + 1, by omega, by go_num, fun j hj => by
                by_cases e : j = k
                · rw [e]; exact He.out
                · exact Hall.out j (by omega), _, rfl⟩
              case measure => simp [intOf]; omega
            · have he' : (ix t.data k != ix u.data k) = true := by simp [he]
              go_wp2
              go_quiet (fail)
              go_wp2
              go_ret
              exact bolB_ret (below_drewN (below_drewN HB0.out _) _) (by
                rw [Hr.out]
                have : ¬ t.data = u.data := fun e => he (by rw [e])
                simp [this])
          · obtain rfl : k = n2 := by omega
            go_wp2
            go_ret
            exact bolB_ret (below_drewN HB0.out _) (by
              rw [Hr.out]
              have : t.data = u.data := eq_of_ix L2.out L4.out Hall.out
              simp [this])
end Go.Proofs.Ytkcnpnnflbibiaa

/- The walks: whether two attributes are the same. -/
namespace Go.Proofs.Ytkcnpnnflbibiaa
open Go.RowKit

def sameA (a b : At) : Bool := decide (a.name = b.name) && (a.kind == b.kind) && (a.f == b.f) && (a.i == b.i) && decide (a.s = b.s) && sameT a.t b.t && decide (a.ints = b.ints)
theorem toList_inj {a b : ByteArray} (h : a.toList = b.toList) : a = b := by
  rw [ByteArray.toList_eq, ByteArray.toList_eq] at h
  exact list_ext a b h
set_option maxRecDepth 100000 in
set_option maxHeartbeats 6400000 in
theorem sameA_any (a b : At) (w : World) (B : Nat) (A1 A2 A3 A4 A5 A6 : Option Addr) (n1 c1 n2 c2 n3 c3 n4 c4 n5 c5 n6 c6 : Nat) (h1 : Ints w B A1 n1 a.t.dims) (h2 : Ints w B A2 n2 a.t.data) (h3 : Ints w B A3 n3 a.ints) (h4 : Ints w B A4 n4 b.t.dims) (h5 : Ints w B A5 n5 b.t.data) (h6 : Ints w B A6 n6 b.ints) (hB : B ≤ w.heap.size) :
    Calls Try.prog 60 #[.agg #[.string a.name, .int .i64 a.kind, .int .i64 a.f, .int .i64 a.i, .string a.s, .int .i64 a.t.typ, .slice A1 n1 c1, .slice A2 n2 c2, .slice A3 n3 c3], .agg #[.string b.name, .int .i64 b.kind, .int .i64 b.f, .int .i64 b.i, .string b.s, .int .i64 b.t.typ, .slice A4 n4 c4, .slice A5 n5 c5, .slice A6 n6 c6]] w (BolB (sameA a b) w) := by
  obtain ⟨nm, kd, f, i, s, t, ints⟩ := a
  obtain ⟨nm', kd', f', i', s', t', ints'⟩ := b
  dsimp only at h1 h2 h3 h4 h5 h6 ⊢
  have hb0 : Below w.heap.size w ((w.alloc (.cells #[.string nm, .int .i64 kd, .int .i64 f, .int .i64 i, .string s, .int .i64 t.typ, .slice A1 n1 c1, .slice A2 n2 c2, .slice A3 n3 c3] 88)).alloc (.cells #[.string nm', .int .i64 kd', .int .i64 f', .int .i64 i', .string s', .int .i64 t'.typ, .slice A4 n4 c4, .slice A5 n5 c5, .slice A6 n6 c6] 88)) := ((Below.refl _ _).alloc (Nat.le_refl _) _).alloc (by simp) _
  have hg1 := (Below.heap_alloc (w.alloc (.cells #[.string nm, .int .i64 kd, .int .i64 f, .int .i64 i, .string s, .int .i64 t.typ, .slice A1 n1 c1, .slice A2 n2 c2, .slice A3 n3 c3] 88)) (.cells #[.string nm', .int .i64 kd', .int .i64 f', .int .i64 i', .string s', .int .i64 t'.typ, .slice A4 n4 c4, .slice A5 n5 c5, .slice A6 n6 c6] 88) w.heap.size (by simp)).trans (heap_alloc_new w (.cells #[.string nm, .int .i64 kd, .int .i64 f, .int .i64 i, .string s, .int .i64 t.typ, .slice A1 n1 c1, .slice A2 n2 c2, .slice A3 n3 c3] 88))
  have hg2 := heap_second w (.cells #[.string nm, .int .i64 kd, .int .i64 f, .int .i64 i, .string s, .int .i64 t.typ, .slice A1 n1 c1, .slice A2 n2 c2, .slice A3 n3 c3] 88) (.cells #[.string nm', .int .i64 kd', .int .i64 f', .int .i64 i', .string s', .int .i64 t'.typ, .slice A4 n4 c4, .slice A5 n5 c5, .slice A6 n6 c6] 88) (w.heap.size + 1) rfl
  have HS := Lib.hid (sameT_any t t' ((w.alloc (.cells #[.string nm, .int .i64 kd, .int .i64 f, .int .i64 i, .string s, .int .i64 t.typ, .slice A1 n1 c1, .slice A2 n2 c2, .slice A3 n3 c3] 88)).alloc (.cells #[.string nm', .int .i64 kd', .int .i64 f', .int .i64 i', .string s', .int .i64 t'.typ, .slice A4 n4 c4, .slice A5 n5 c5, .slice A6 n6 c6] 88)) w.heap.size A1 A2 A4 A5 n1 c1 n2 c2 n4 c4 n5 c5 (h1.below (hb0.mono hB) hB) (h2.below (hb0.mono hB) hB) (h4.below (hb0.mono hB) hB) (h5.below (hb0.mono hB) hB) hb0.size)
  have H3 := Lib.hid (h3.below (hb0.mono hB) hB)
  have H6 := Lib.hid (h6.below (hb0.mono hB) hB)
  have L3 := Lib.hid h3.len
  have L6 := Lib.hid h6.len
  have j3 := h3.int
  have j6 := h6.int
  have HB0 := Lib.hid hb0
  have HG1 := Lib.hid hg1
  have HG2 := Lib.hid hg2
  have z0 : ((w.alloc (.cells #[.string nm, .int .i64 kd, .int .i64 f, .int .i64 i, .string s, .int .i64 t.typ, .slice A1 n1 c1, .slice A2 n2 c2, .slice A3 n3 c3] 88)).alloc (.cells #[.string nm', .int .i64 kd', .int .i64 f', .int .i64 i', .string s', .int .i64 t'.typ, .slice A4 n4 c4, .slice A5 n5 c5, .slice A6 n6 c6] 88)).heap.size = w.heap.size + 2 := by simp
  have Hz0 := Lib.hid z0
  clear hb0 hg1 hg2 h1 h2 h3 h4 h5 h6 z0
  generalize hw0 : ((w.alloc (.cells #[.string nm, .int .i64 kd, .int .i64 f, .int .i64 i, .string s, .int .i64 t.typ, .slice A1 n1 c1, .slice A2 n2 c2, .slice A3 n3 c3] 88)).alloc (.cells #[.string nm', .int .i64 kd', .int .i64 f', .int .i64 i', .string s', .int .i64 t'.typ, .slice A4 n4 c4, .slice A5 n5 c5, .slice A6 n6 c6] 88)) = w0 at HS H3 H6 HB0 HG1 HG2 Hz0
  have x0 : w0.cell? ⟨w.heap.size, 0, none⟩ = some (.string nm) := cell_of_row _ _ 0 _ 88 (0, 0) HG1.out
  have x1 : w0.cell? ⟨w.heap.size, 1, none⟩ = some (.int .i64 kd) := cell_of_row _ _ 1 _ 88 (0, 0) HG1.out
  have x2 : w0.cell? ⟨w.heap.size, 2, none⟩ = some (.int .i64 f) := cell_of_row _ _ 2 _ 88 (0, 0) HG1.out
  have x3 : w0.cell? ⟨w.heap.size, 3, none⟩ = some (.int .i64 i) := cell_of_row _ _ 3 _ 88 (0, 0) HG1.out
  have x4 : w0.cell? ⟨w.heap.size, 4, none⟩ = some (.string s) := cell_of_row _ _ 4 _ 88 (0, 0) HG1.out
  have x5 : w0.cell? ⟨w.heap.size, 5, none⟩ = some (.int .i64 t.typ) := cell_of_row _ _ 5 _ 88 (0, 0) HG1.out
  have x6 : w0.cell? ⟨w.heap.size, 6, none⟩ = some (.slice A1 n1 c1) := cell_of_row _ _ 6 _ 88 (0, 0) HG1.out
  have x7 : w0.cell? ⟨w.heap.size, 7, none⟩ = some (.slice A2 n2 c2) := cell_of_row _ _ 7 _ 88 (0, 0) HG1.out
  have x8 : w0.cell? ⟨w.heap.size, 8, none⟩ = some (.slice A3 n3 c3) := cell_of_row _ _ 8 _ 88 (0, 0) HG1.out
  have y0 : w0.cell? ⟨w.heap.size + 1, 0, none⟩ = some (.string nm') := cell_of_row _ _ 0 _ 88 (0, 0) HG2.out
  have y1 : w0.cell? ⟨w.heap.size + 1, 1, none⟩ = some (.int .i64 kd') := cell_of_row _ _ 1 _ 88 (0, 0) HG2.out
  have y2 : w0.cell? ⟨w.heap.size + 1, 2, none⟩ = some (.int .i64 f') := cell_of_row _ _ 2 _ 88 (0, 0) HG2.out
  have y3 : w0.cell? ⟨w.heap.size + 1, 3, none⟩ = some (.int .i64 i') := cell_of_row _ _ 3 _ 88 (0, 0) HG2.out
  have y4 : w0.cell? ⟨w.heap.size + 1, 4, none⟩ = some (.string s') := cell_of_row _ _ 4 _ 88 (0, 0) HG2.out
  have y5 : w0.cell? ⟨w.heap.size + 1, 5, none⟩ = some (.int .i64 t'.typ) := cell_of_row _ _ 5 _ 88 (0, 0) HG2.out
  have y6 : w0.cell? ⟨w.heap.size + 1, 6, none⟩ = some (.slice A4 n4 c4) := cell_of_row _ _ 6 _ 88 (0, 0) HG2.out
  have y7 : w0.cell? ⟨w.heap.size + 1, 7, none⟩ = some (.slice A5 n5 c5) := cell_of_row _ _ 7 _ 88 (0, 0) HG2.out
  have y8 : w0.cell? ⟨w.heap.size + 1, 8, none⟩ = some (.slice A6 n6 c6) := cell_of_row _ _ 8 _ 88 (0, 0) HG2.out
  clear HG1 HG2
  have Hw0 := Lib.hid hw0
  clear hw0
  go_enter Try.func60, Try.ntmps60
  go_upto_region 1 with (fail)
  rw [Hw0.out]
  clear Hw0
  by_cases e_nm : nm = nm'
  case neg =>
    have b_nm : ¬ nm.toList = nm'.toList := fun h => e_nm (toList_inj h)
    have b1_nm : (nm.toList == nm'.toList) = false := by simpa using b_nm
    have b2_nm : (nm.toList != nm'.toList) = true := by simpa using b_nm
    have Hr := Lib.hid (show sameA ⟨nm, kd, f, i, s, t, ints⟩ ⟨nm', kd', f', i', s', t', ints'⟩ = false by simp [sameA, e_nm])
    clear e_nm
    go_wp2
    go_ret
    exact bolB_ret HB0.out (by rw [Hr.out])
  case pos =>
    subst e_nm
    by_cases e_kd : kd = kd'
    case neg =>
      have b1_kd : (kd == kd') = false := by simpa using e_kd
      have b2_kd : (kd != kd') = true := by simpa using e_kd
      have Hr := Lib.hid (show sameA ⟨nm, kd, f, i, s, t, ints⟩ ⟨nm, kd', f', i', s', t', ints'⟩ = false by simp [sameA, e_kd])
      clear e_kd
      go_wp2
      go_ret
      exact bolB_ret HB0.out (by rw [Hr.out])
    case pos =>
      subst e_kd
      by_cases e_f : f = f'
      case neg =>
        have b1_f : (f == f') = false := by simpa using e_f
        have b2_f : (f != f') = true := by simpa using e_f
        have Hr := Lib.hid (show sameA ⟨nm, kd, f, i, s, t, ints⟩ ⟨nm, kd, f', i', s', t', ints'⟩ = false by simp [sameA, e_f])
        clear e_f
        go_wp2
        go_ret
        exact bolB_ret HB0.out (by rw [Hr.out])
      case pos =>
        subst e_f
        by_cases e_i : i = i'
        case neg =>
          have b1_i : (i == i') = false := by simpa using e_i
          have b2_i : (i != i') = true := by simpa using e_i
          have Hr := Lib.hid (show sameA ⟨nm, kd, f, i, s, t, ints⟩ ⟨nm, kd, f, i', s', t', ints'⟩ = false by simp [sameA, e_i])
          clear e_i
          go_wp2
          go_ret
          exact bolB_ret HB0.out (by rw [Hr.out])
        case pos =>
          subst e_i
          by_cases e_s : s = s'
          case neg =>
            have b_s : ¬ s.toList = s'.toList := fun h => e_s (toList_inj h)
            have b1_s : (s.toList == s'.toList) = false := by simpa using b_s
            have b2_s : (s.toList != s'.toList) = true := by simpa using b_s
            have Hr := Lib.hid (show sameA ⟨nm, kd, f, i, s, t, ints⟩ ⟨nm, kd, f, i, s', t', ints'⟩ = false by simp [sameA, e_s])
            clear e_s
            go_wp2
            go_ret
            exact bolB_ret HB0.out (by rw [Hr.out])
          case pos =>
            subst e_s
            cases hT : sameT t t' with
            | false =>
              rw [hT] at HS
              have Hr := Lib.hid (show sameA ⟨nm, kd, f, i, s, t, ints⟩ ⟨nm, kd, f, i, s, t', ints'⟩ = false by simp [sameA, hT])
              clear hT
              go_wp2_with fail
              refine HS.out.mono ?_
              rintro e w1 ⟨rfl, hb1⟩
              have Hb1 := Lib.hid (HB0.out.trans (hb1.mono HB0.out.size))
              clear hb1
              go_wp2
              go_ret
              exact bolB_ret Hb1.out (by rw [Hr.out])
            | true =>
              rw [hT] at HS
              by_cases hn : n3 = n6
              case neg =>
                have hne : ((n3 : Int) == n6) = false := by simp; omega
                have hne' : ((n3 : Int) != n6) = true := by simp; omega
                have Hr := Lib.hid (show sameA ⟨nm, kd, f, i, s, t, ints⟩ ⟨nm, kd, f, i, s, t', ints'⟩ = false by
                  have : ¬ ints = ints' := fun e => hn (by rw [← L3.out, ← L6.out, e])
                  simp [sameA, this])
                clear hT
                go_wp2_with fail
                refine HS.out.mono ?_
                rintro e w1 ⟨rfl, hb1⟩
                have Hb1 := Lib.hid (HB0.out.trans (hb1.mono HB0.out.size))
                have v8 : w1.cell? ⟨w.heap.size, 8, none⟩ = some (.slice A3 n3 c3) := (hb1.cell (by have := Hz0.out; dsimp only; omega)).trans x8
                have u8 : w1.cell? ⟨w.heap.size + 1, 8, none⟩ = some (.slice A6 n6 c6) := (hb1.cell (by have := Hz0.out; dsimp only; omega)).trans y8
                clear hb1
                go_wp2
                go_ret
                exact bolB_ret Hb1.out (by rw [Hr.out])
              case pos =>
                subst hn
                have Hr := Lib.hid (show sameA ⟨nm, kd, f, i, s, t, ints⟩ ⟨nm, kd, f, i, s, t', ints'⟩ = decide (ints = ints') by simp [sameA, hT])
                clear hT
                go_wp2_with fail
                refine HS.out.mono ?_
                rintro e w1 ⟨rfl, hb1⟩
                have Hb1 := Lib.hid (HB0.out.trans (hb1.mono HB0.out.size))
                have v8 : w1.cell? ⟨w.heap.size, 8, none⟩ = some (.slice A3 n3 c3) := (hb1.cell (by have := Hz0.out; dsimp only; omega)).trans x8
                have u8 : w1.cell? ⟨w.heap.size + 1, 8, none⟩ = some (.slice A6 n3 c6) := (hb1.cell (by have := Hz0.out; dsimp only; omega)).trans y8
                have H31 := Lib.hid (H3.out.below (hb1.mono HB0.out.size) (Nat.le_refl _))
                have H61 := Lib.hid (H6.out.below (hb1.mono HB0.out.size) (Nat.le_refl _))
                clear hb1
                go_wp2_with fail
                go_loopw [5] (fun i wr => ∃ k : Nat, k ≤ n3 ∧ i = .int .i64 k ∧ (∀ j, j < k → ix ints j = ix ints' j) ∧ ∃ q, wr = w1.drewN q) (fun i _ => n3 - (intOf i).toNat)
                case atStart => exact ⟨0, Nat.zero_le _, rfl, fun j hj => absurd hj (by omega), 0, rfl⟩
                case round =>
                  obtain ⟨k, hk, rfl, hall, q, rfl⟩ := hrel
                  have Hall := Lib.hid hall
                  clear hall
                  by_cases hlt : k < n3
                  · obtain ⟨b1, off1, rfl, hb1, hc1⟩ := H31.out.get hlt
                    obtain ⟨b2, off2, rfl, hb2, hc2⟩ := H61.out.get hlt
                    by_cases he : ix ints k = ix ints' k
                    · have he' : (ix ints k != ix ints' k) = false := by simp [he]
                      have He := Lib.hid he
                      clear he
                      go_wp2
                      go_quiet (fail)
                      go_wp2
                      go_roundw
                      case rel => exact ⟨k + 1, by omega, by go_num, fun j hj => by
                        by_cases e : j = k
                        · rw [e]; exact He.out
                        · exact Hall.out j (by omega), _, rfl⟩
                      case measure => simp [intOf]; omega
                    · have he' : (ix ints k != ix ints' k) = true := by simp [he]
                      go_wp2
                      go_quiet (fail)
                      go_wp2
                      go_ret
                      exact bolB_ret (below_drewN (below_drewN Hb1.out _) _) (by
                        rw [Hr.out]
                        have : ¬ ints = ints' := fun e => he (by rw [e])
                        simp [this])
                  · obtain rfl : k = n3 := by omega
                    go_wp2
                    go_ret
                    exact bolB_ret (below_drewN Hb1.out _) (by
                      rw [Hr.out]
                      have : ints = ints' := eq_of_ix L3.out L6.out Hall.out
                      simp [this])
end Go.Proofs.Ytkcnpnnflbibiaa
