/- The walks: whether an attribute has what its kind names, alone. -/
import Derived.Test.YtkcnpnnflbibiaaEc
set_option linter.unusedVariables false
namespace Go.Proofs.Ytkcnpnnflbibiaa
open Go.RowKit

def hasT (t : Tn) : Bool := decide (0 < t.dims.length + t.data.length) || t.typ != 0
def noS (s : ByteArray) : Bool := decide (s.toList = [])
def bareB (a : At) : Bool :=
  if a.kind = 1 then chk 1 a.f && (a.i == 0) && noS a.s && !hasT a.t && (a.ints.length == 0)
  else if a.kind = 2 then (a.f == 0) && noS a.s && !hasT a.t && (a.ints.length == 0)
  else if a.kind = 3 then (a.f == 0) && (a.i == 0) && decide (a.s.size ≤ 100) && !hasT a.t && (a.ints.length == 0)
  else if a.kind = 4 then (a.f == 0) && (a.i == 0) && noS a.s && (tchk a.t == 0) && (a.ints.length == 0)
  else if a.kind = 7 then (a.f == 0) && (a.i == 0) && noS a.s && !hasT a.t && decide (a.ints.length ≤ 20)
  else false
/-- What bare leaves. -/
def BolB (b : Bool) (w : World) (e : Ending) (w' : World) : Prop := e = .returned (.bool b) ∧ Below w.heap.size w w'
theorem bolB_ret {b x : Bool} {w w' : World} (hb : Below w.heap.size w w') (h : x = b) : BolB b w (.returned (.bool x)) w' := ⟨by rw [h], hb⟩
set_option maxRecDepth 100000 in
set_option maxHeartbeats 6400000 in
theorem bare_any (a : At) (w : World) (B : Nat) (A1 A2 A3 : Option Addr) (n1 c1 n2 c2 n3 c3 : Nat) (hd : Ints w B A1 n1 a.t.dims) (he : Ints w B A2 n2 a.t.data) (hi : Ints w B A3 n3 a.ints) (hB : B ≤ w.heap.size) (hsz : a.t.dims.length + a.t.data.length ≤ 9223372036854775807) :
    Calls Try.prog 63 #[.agg #[.string a.name, .int .i64 a.kind, .int .i64 a.f, .int .i64 a.i, .string a.s, .int .i64 a.t.typ, .slice A1 n1 c1, .slice A2 n2 c2, .slice A3 n3 c3]] w (BolB (bareB a) w) := by
  have hb0 : Below w.heap.size w (w.alloc (.cells #[.string a.name, .int .i64 a.kind, .int .i64 a.f, .int .i64 a.i, .string a.s, .int .i64 a.t.typ, .slice A1 n1 c1, .slice A2 n2 c2, .slice A3 n3 c3] 88)) := (Below.refl _ _).alloc (Nat.le_refl _) _
  have hg0 := heap_alloc_new w (.cells #[.string a.name, .int .i64 a.kind, .int .i64 a.f, .int .i64 a.i, .string a.s, .int .i64 a.t.typ, .slice A1 n1 c1, .slice A2 n2 c2, .slice A3 n3 c3] 88)
  have HC := Lib.hid (fun x => chk_any 1 a.f x)
  have HT := Lib.hid (check_any a.t (w.alloc (.cells #[.string a.name, .int .i64 a.kind, .int .i64 a.f, .int .i64 a.i, .string a.s, .int .i64 a.t.typ, .slice A1 n1 c1, .slice A2 n2 c2, .slice A3 n3 c3] 88)) w.heap.size A1 A2 n1 c1 n2 c2 (hd.below (hb0.mono hB) hB) (he.below (hb0.mono hB) hB) (by simp))
  have HB0 := Lib.hid hb0
  have HG0 := Lib.hid hg0
  have Hl1 := Lib.hid hd.len
  have Hl2 := Lib.hid he.len
  have Hl3 := Lib.hid hi.len
  have i1 := hd.int
  have i2 := he.int
  have i3 := hi.int
  have s1 := hd.small
  have s2 := he.small
  unfold maxLen at s1 s2
  rw [hd.len, he.len] at hsz
  clear hb0 hd he hi hg0
  go_enter Try.func63, Try.ntmps63
  go_upto_region 1 with (fail)
  generalize (w.alloc (.cells #[.string a.name, .int .i64 a.kind, .int .i64 a.f, .int .i64 a.i, .string a.s, .int .i64 a.t.typ, .slice A1 n1 c1, .slice A2 n2 c2, .slice A3 n3 c3] 88)) = w0 at HB0 HG0 HT ⊢
  have y0 : w0.cell? ⟨w.heap.size, 0, none⟩ = some (.string a.name) := cell_of_row _ _ 0 _ 88 (0, 0) HG0.out
  have y1 : w0.cell? ⟨w.heap.size, 1, none⟩ = some (.int .i64 a.kind) := cell_of_row _ _ 1 _ 88 (0, 0) HG0.out
  have y2 : w0.cell? ⟨w.heap.size, 2, none⟩ = some (.int .i64 a.f) := cell_of_row _ _ 2 _ 88 (0, 0) HG0.out
  have y3 : w0.cell? ⟨w.heap.size, 3, none⟩ = some (.int .i64 a.i) := cell_of_row _ _ 3 _ 88 (0, 0) HG0.out
  have y4 : w0.cell? ⟨w.heap.size, 4, none⟩ = some (.string a.s) := cell_of_row _ _ 4 _ 88 (0, 0) HG0.out
  have y5 : w0.cell? ⟨w.heap.size, 5, none⟩ = some (.int .i64 a.t.typ) := cell_of_row _ _ 5 _ 88 (0, 0) HG0.out
  have y6 : w0.cell? ⟨w.heap.size, 6, none⟩ = some (.slice A1 n1 c1) := cell_of_row _ _ 6 _ 88 (0, 0) HG0.out
  have y7 : w0.cell? ⟨w.heap.size, 7, none⟩ = some (.slice A2 n2 c2) := cell_of_row _ _ 7 _ 88 (0, 0) HG0.out
  have y8 : w0.cell? ⟨w.heap.size, 8, none⟩ = some (.slice A3 n3 c3) := cell_of_row _ _ 8 _ 88 (0, 0) HG0.out
  go_cut [3] from 20 (fun v3 wx => v3 = .bool (hasT a.t) ∧ wx = w0)
  case first =>
    by_cases h1 : 0 < n1 + n2
    · have Hr := Lib.hid (show hasT a.t = true by simp [hasT, Hl1.out, Hl2.out]; omega)
      go_wp2
      go_meet
      exact ⟨by rw [Hr.out]; first | done | rfl | (congr 1; simp; omega), rfl⟩
    · by_cases h2 : a.t.typ = 0
      · have q2 : (a.t.typ != 0) = false := by simpa using h2
        have Hr := Lib.hid (show hasT a.t = false by simp [hasT, Hl1.out, Hl2.out, h2]; omega)
        clear h2
        go_wp2
        go_meet
        exact ⟨by rw [Hr.out]; first | done | rfl | (congr 1; simp; omega), rfl⟩
      · have q2 : (a.t.typ != 0) = true := by simpa using h2
        have Hr := Lib.hid (show hasT a.t = true by simp [hasT, h2])
        clear h2
        go_wp2
        go_meet
        exact ⟨by rw [Hr.out]; first | done | rfl | (congr 1; simp; omega), rfl⟩
  case rest =>
    obtain ⟨rfl, rfl⟩ := hcut
    by_cases k1 : a.kind = 1
    · have b_k1 : (a.kind == 1) = true := by simpa using k1
      cases hC : chk 1 a.f with
      | true =>
        rw [hC] at HC
        by_cases i0 : a.i = 0
        · have b_i0 : (a.i == 0) = true := by simpa using i0
          by_cases s0 : a.s.toList = []
          · have c_s0 := Lib.hid (show noS a.s = true by simp [noS, s0])
            cases hT : hasT a.t with
            | false =>
              by_cases n0 : n3 = 0
              · have b_n0 : ((n3 : Int) == 0) = true := by simp [n0]
                have Hr := Lib.hid (show bareB a = true by simp [bareB, k1, hC, i0, c_s0.out, hT, Hl3.out, n0])
                (try clear f0); (try clear i0); (try clear hc); (try clear n0); (try clear k1); (try clear k2); (try clear k3); (try clear k4); (try clear k7); (try rw [hT]); (try clear hT); (try clear hC)
                go_wp2_with fail
                refine (HC.out _).mono ?_
                rintro e wx ⟨rfl, rfl⟩
                go_wp2
                go_ret
                exact bolB_ret HB0.out (by rw [Hr.out]; first | done | rfl | (simp; done) | (simp; omega))
              · have b_n0 : ((n3 : Int) == 0) = false := by simpa using n0
                have Hr := Lib.hid (show bareB a = false by simp [bareB, k1, hC, i0, c_s0.out, hT, Hl3.out, n0])
                (try clear f0); (try clear i0); (try clear hc); (try clear n0); (try clear k1); (try clear k2); (try clear k3); (try clear k4); (try clear k7); (try rw [hT]); (try clear hT); (try clear hC)
                go_wp2_with fail
                refine (HC.out _).mono ?_
                rintro e wx ⟨rfl, rfl⟩
                go_wp2
                go_ret
                exact bolB_ret HB0.out (by rw [Hr.out]; first | done | rfl | (simp; done) | (simp; omega))
            | true =>
              have Hr := Lib.hid (show bareB a = false by simp [bareB, k1, hC, i0, c_s0.out, hT])
              (try clear f0); (try clear i0); (try clear hc); (try clear n0); (try clear k1); (try clear k2); (try clear k3); (try clear k4); (try clear k7); (try rw [hT]); (try clear hT); (try clear hC)
              go_wp2_with fail
              refine (HC.out _).mono ?_
              rintro e wx ⟨rfl, rfl⟩
              go_wp2
              go_ret
              exact bolB_ret HB0.out (by rw [Hr.out]; first | done | rfl | (simp; done) | (simp; omega))
          · have c_s0 := Lib.hid (show noS a.s = false by simp [noS, s0])
            have Hr := Lib.hid (show bareB a = false by simp [bareB, k1, hC, i0, c_s0.out])
            (try clear f0); (try clear i0); (try clear hc); (try clear n0); (try clear k1); (try clear k2); (try clear k3); (try clear k4); (try clear k7); (try rw [hT]); (try clear hT); (try clear hC)
            go_wp2_with fail
            refine (HC.out _).mono ?_
            rintro e wx ⟨rfl, rfl⟩
            go_wp2
            go_ret
            exact bolB_ret HB0.out (by rw [Hr.out]; first | done | rfl | (simp; done) | (simp; omega))
        · have b_i0 : (a.i == 0) = false := by simpa using i0
          have Hr := Lib.hid (show bareB a = false by simp [bareB, k1, hC, i0])
          (try clear f0); (try clear i0); (try clear hc); (try clear n0); (try clear k1); (try clear k2); (try clear k3); (try clear k4); (try clear k7); (try rw [hT]); (try clear hT); (try clear hC)
          go_wp2_with fail
          refine (HC.out _).mono ?_
          rintro e wx ⟨rfl, rfl⟩
          go_wp2
          go_ret
          exact bolB_ret HB0.out (by rw [Hr.out]; first | done | rfl | (simp; done) | (simp; omega))
      | false =>
        rw [hC] at HC
        have Hr := Lib.hid (show bareB a = false by simp [bareB, k1, hC])
        (try clear f0); (try clear i0); (try clear hc); (try clear n0); (try clear k1); (try clear k2); (try clear k3); (try clear k4); (try clear k7); (try rw [hT]); (try clear hT); (try clear hC)
        go_wp2_with fail
        refine (HC.out _).mono ?_
        rintro e wx ⟨rfl, rfl⟩
        go_wp2
        go_ret
        exact bolB_ret HB0.out (by rw [Hr.out]; first | done | rfl | (simp; done) | (simp; omega))
    have b_k1 : (a.kind == 1) = false := by simpa using k1
    by_cases k2 : a.kind = 2
    · have b_k2 : (a.kind == 2) = true := by simpa using k2
      by_cases f0 : a.f = 0
      · have b_f0 : (a.f == 0) = true := by simpa using f0
        by_cases s0 : a.s.toList = []
        · have c_s0 := Lib.hid (show noS a.s = true by simp [noS, s0])
          cases hT : hasT a.t with
          | false =>
            by_cases n0 : n3 = 0
            · have b_n0 : ((n3 : Int) == 0) = true := by simp [n0]
              have Hr := Lib.hid (show bareB a = true by simp [bareB, k2, f0, c_s0.out, hT, Hl3.out, n0])
              (try clear f0); (try clear i0); (try clear hc); (try clear n0); (try clear k1); (try clear k2); (try clear k3); (try clear k4); (try clear k7); (try rw [hT]); (try clear hT); (try clear hC)
              go_wp2
              go_ret
              exact bolB_ret HB0.out (by rw [Hr.out]; first | done | rfl | (simp; done) | (simp; omega))
            · have b_n0 : ((n3 : Int) == 0) = false := by simpa using n0
              have Hr := Lib.hid (show bareB a = false by simp [bareB, k2, f0, c_s0.out, hT, Hl3.out, n0])
              (try clear f0); (try clear i0); (try clear hc); (try clear n0); (try clear k1); (try clear k2); (try clear k3); (try clear k4); (try clear k7); (try rw [hT]); (try clear hT); (try clear hC)
              go_wp2
              go_ret
              exact bolB_ret HB0.out (by rw [Hr.out]; first | done | rfl | (simp; done) | (simp; omega))
          | true =>
            have Hr := Lib.hid (show bareB a = false by simp [bareB, k2, f0, c_s0.out, hT])
            (try clear f0); (try clear i0); (try clear hc); (try clear n0); (try clear k1); (try clear k2); (try clear k3); (try clear k4); (try clear k7); (try rw [hT]); (try clear hT); (try clear hC)
            go_wp2
            go_ret
            exact bolB_ret HB0.out (by rw [Hr.out]; first | done | rfl | (simp; done) | (simp; omega))
        · have c_s0 := Lib.hid (show noS a.s = false by simp [noS, s0])
          have Hr := Lib.hid (show bareB a = false by simp [bareB, k2, f0, c_s0.out])
          (try clear f0); (try clear i0); (try clear hc); (try clear n0); (try clear k1); (try clear k2); (try clear k3); (try clear k4); (try clear k7); (try rw [hT]); (try clear hT); (try clear hC)
          go_wp2
          go_ret
          exact bolB_ret HB0.out (by rw [Hr.out]; first | done | rfl | (simp; done) | (simp; omega))
      · have b_f0 : (a.f == 0) = false := by simpa using f0
        have Hr := Lib.hid (show bareB a = false by simp [bareB, k2, f0])
        (try clear f0); (try clear i0); (try clear hc); (try clear n0); (try clear k1); (try clear k2); (try clear k3); (try clear k4); (try clear k7); (try rw [hT]); (try clear hT); (try clear hC)
        go_wp2
        go_ret
        exact bolB_ret HB0.out (by rw [Hr.out]; first | done | rfl | (simp; done) | (simp; omega))
    have b_k2 : (a.kind == 2) = false := by simpa using k2
    by_cases k3 : a.kind = 3
    · have b_k3 : (a.kind == 3) = true := by simpa using k3
      by_cases f0 : a.f = 0
      · have b_f0 : (a.f == 0) = true := by simpa using f0
        by_cases i0 : a.i = 0
        · have b_i0 : (a.i == 0) = true := by simpa using i0
          by_cases s100 : a.s.size ≤ 100
          · skip
            cases hT : hasT a.t with
            | false =>
              by_cases n0 : n3 = 0
              · have b_n0 : ((n3 : Int) == 0) = true := by simp [n0]
                have Hr := Lib.hid (show bareB a = true by simp [bareB, k3, f0, i0, s100, hT, Hl3.out, n0])
                (try clear f0); (try clear i0); (try clear hc); (try clear n0); (try clear k1); (try clear k2); (try clear k3); (try clear k4); (try clear k7); (try rw [hT]); (try clear hT); (try clear hC)
                go_wp2
                go_ret
                exact bolB_ret HB0.out (by rw [Hr.out]; first | done | rfl | (simp; done) | (simp; omega))
              · have b_n0 : ((n3 : Int) == 0) = false := by simpa using n0
                have Hr := Lib.hid (show bareB a = false by simp [bareB, k3, f0, i0, s100, hT, Hl3.out, n0])
                (try clear f0); (try clear i0); (try clear hc); (try clear n0); (try clear k1); (try clear k2); (try clear k3); (try clear k4); (try clear k7); (try rw [hT]); (try clear hT); (try clear hC)
                go_wp2
                go_ret
                exact bolB_ret HB0.out (by rw [Hr.out]; first | done | rfl | (simp; done) | (simp; omega))
            | true =>
              have Hr := Lib.hid (show bareB a = false by simp [bareB, k3, f0, i0, s100, hT])
              (try clear f0); (try clear i0); (try clear hc); (try clear n0); (try clear k1); (try clear k2); (try clear k3); (try clear k4); (try clear k7); (try rw [hT]); (try clear hT); (try clear hC)
              go_wp2
              go_ret
              exact bolB_ret HB0.out (by rw [Hr.out]; first | done | rfl | (simp; done) | (simp; omega))
          · skip
            have Hr := Lib.hid (show bareB a = false by simp [bareB, k3, f0, i0, s100])
            (try clear f0); (try clear i0); (try clear hc); (try clear n0); (try clear k1); (try clear k2); (try clear k3); (try clear k4); (try clear k7); (try rw [hT]); (try clear hT); (try clear hC)
            go_wp2
            go_ret
            exact bolB_ret HB0.out (by rw [Hr.out]; first | done | rfl | (simp; done) | (simp; omega))
        · have b_i0 : (a.i == 0) = false := by simpa using i0
          have Hr := Lib.hid (show bareB a = false by simp [bareB, k3, f0, i0])
          (try clear f0); (try clear i0); (try clear hc); (try clear n0); (try clear k1); (try clear k2); (try clear k3); (try clear k4); (try clear k7); (try rw [hT]); (try clear hT); (try clear hC)
          go_wp2
          go_ret
          exact bolB_ret HB0.out (by rw [Hr.out]; first | done | rfl | (simp; done) | (simp; omega))
      · have b_f0 : (a.f == 0) = false := by simpa using f0
        have Hr := Lib.hid (show bareB a = false by simp [bareB, k3, f0])
        (try clear f0); (try clear i0); (try clear hc); (try clear n0); (try clear k1); (try clear k2); (try clear k3); (try clear k4); (try clear k7); (try rw [hT]); (try clear hT); (try clear hC)
        go_wp2
        go_ret
        exact bolB_ret HB0.out (by rw [Hr.out]; first | done | rfl | (simp; done) | (simp; omega))
    have b_k3 : (a.kind == 3) = false := by simpa using k3
    by_cases k4 : a.kind = 4
    · have b_k4 : (a.kind == 4) = true := by simpa using k4
      by_cases f0 : a.f = 0
      · have b_f0 : (a.f == 0) = true := by simpa using f0
        by_cases i0 : a.i = 0
        · have b_i0 : (a.i == 0) = true := by simpa using i0
          by_cases s0 : a.s.toList = []
          · have c_s0 := Lib.hid (show noS a.s = true by simp [noS, s0])
            by_cases hc : tchk a.t = 0
            · have b_hc : (tchk a.t == 0) = true := by simpa using hc
              by_cases n0 : n3 = 0
              · have b_n0 : ((n3 : Int) == 0) = true := by simp [n0]
                have Hr := Lib.hid (show bareB a = true by simp [bareB, k4, f0, i0, c_s0.out, hc, Hl3.out, n0])
                (try clear f0); (try clear i0); (try clear hc); (try clear n0); (try clear k1); (try clear k2); (try clear k3); (try clear k4); (try clear k7); (try rw [hT]); (try clear hT); (try clear hC)
                go_wp2_with fail
                refine HT.out.mono ?_
                rintro e wx ⟨rfl, hbx⟩
                have Hbx := Lib.hid (HB0.out.trans (hbx.mono HB0.out.size))
                have y8' : wx.cell? ⟨w.heap.size, 8, none⟩ = some (.slice A3 n3 c3) := (hbx.cell (by exact (Array.getElem?_eq_some_iff.1 HG0.out).1)).trans y8
                clear hbx
                go_wp2
                go_ret
                exact bolB_ret Hbx.out (by rw [Hr.out]; first | done | rfl | (simp; done) | (simp; omega))
              · have b_n0 : ((n3 : Int) == 0) = false := by simpa using n0
                have Hr := Lib.hid (show bareB a = false by simp [bareB, k4, f0, i0, c_s0.out, hc, Hl3.out, n0])
                (try clear f0); (try clear i0); (try clear hc); (try clear n0); (try clear k1); (try clear k2); (try clear k3); (try clear k4); (try clear k7); (try rw [hT]); (try clear hT); (try clear hC)
                go_wp2_with fail
                refine HT.out.mono ?_
                rintro e wx ⟨rfl, hbx⟩
                have Hbx := Lib.hid (HB0.out.trans (hbx.mono HB0.out.size))
                have y8' : wx.cell? ⟨w.heap.size, 8, none⟩ = some (.slice A3 n3 c3) := (hbx.cell (by exact (Array.getElem?_eq_some_iff.1 HG0.out).1)).trans y8
                clear hbx
                go_wp2
                go_ret
                exact bolB_ret Hbx.out (by rw [Hr.out]; first | done | rfl | (simp; done) | (simp; omega))
            · have b_hc : (tchk a.t == 0) = false := by simpa using hc
              have Hr := Lib.hid (show bareB a = false by simp [bareB, k4, f0, i0, c_s0.out, hc])
              (try clear f0); (try clear i0); (try clear hc); (try clear n0); (try clear k1); (try clear k2); (try clear k3); (try clear k4); (try clear k7); (try rw [hT]); (try clear hT); (try clear hC)
              go_wp2_with fail
              refine HT.out.mono ?_
              rintro e wx ⟨rfl, hbx⟩
              have Hbx := Lib.hid (HB0.out.trans (hbx.mono HB0.out.size))
              have y8' : wx.cell? ⟨w.heap.size, 8, none⟩ = some (.slice A3 n3 c3) := (hbx.cell (by exact (Array.getElem?_eq_some_iff.1 HG0.out).1)).trans y8
              clear hbx
              go_wp2
              go_ret
              exact bolB_ret Hbx.out (by rw [Hr.out]; first | done | rfl | (simp; done) | (simp; omega))
          · have c_s0 := Lib.hid (show noS a.s = false by simp [noS, s0])
            have Hr := Lib.hid (show bareB a = false by simp [bareB, k4, f0, i0, c_s0.out])
            (try clear f0); (try clear i0); (try clear hc); (try clear n0); (try clear k1); (try clear k2); (try clear k3); (try clear k4); (try clear k7); (try rw [hT]); (try clear hT); (try clear hC)
            go_wp2
            go_ret
            exact bolB_ret HB0.out (by rw [Hr.out]; first | done | rfl | (simp; done) | (simp; omega))
        · have b_i0 : (a.i == 0) = false := by simpa using i0
          have Hr := Lib.hid (show bareB a = false by simp [bareB, k4, f0, i0])
          (try clear f0); (try clear i0); (try clear hc); (try clear n0); (try clear k1); (try clear k2); (try clear k3); (try clear k4); (try clear k7); (try rw [hT]); (try clear hT); (try clear hC)
          go_wp2
          go_ret
          exact bolB_ret HB0.out (by rw [Hr.out]; first | done | rfl | (simp; done) | (simp; omega))
      · have b_f0 : (a.f == 0) = false := by simpa using f0
        have Hr := Lib.hid (show bareB a = false by simp [bareB, k4, f0])
        (try clear f0); (try clear i0); (try clear hc); (try clear n0); (try clear k1); (try clear k2); (try clear k3); (try clear k4); (try clear k7); (try rw [hT]); (try clear hT); (try clear hC)
        go_wp2
        go_ret
        exact bolB_ret HB0.out (by rw [Hr.out]; first | done | rfl | (simp; done) | (simp; omega))
    have b_k4 : (a.kind == 4) = false := by simpa using k4
    by_cases k7 : a.kind = 7
    · have b_k7 : (a.kind == 7) = true := by simpa using k7
      by_cases f0 : a.f = 0
      · have b_f0 : (a.f == 0) = true := by simpa using f0
        by_cases i0 : a.i = 0
        · have b_i0 : (a.i == 0) = true := by simpa using i0
          by_cases s0 : a.s.toList = []
          · have c_s0 := Lib.hid (show noS a.s = true by simp [noS, s0])
            cases hT : hasT a.t with
            | false =>
              by_cases n20 : n3 ≤ 20
              · skip
                have Hr := Lib.hid (show bareB a = true by simp [bareB, k7, f0, i0, c_s0.out, hT, Hl3.out, n20])
                (try clear f0); (try clear i0); (try clear hc); (try clear n0); (try clear k1); (try clear k2); (try clear k3); (try clear k4); (try clear k7); (try rw [hT]); (try clear hT); (try clear hC)
                go_wp2
                go_ret
                exact bolB_ret HB0.out (by rw [Hr.out]; first | done | rfl | (simp; done) | (simp; omega))
              · skip
                have Hr := Lib.hid (show bareB a = false by simp [bareB, k7, f0, i0, c_s0.out, hT, Hl3.out, n20])
                (try clear f0); (try clear i0); (try clear hc); (try clear n0); (try clear k1); (try clear k2); (try clear k3); (try clear k4); (try clear k7); (try rw [hT]); (try clear hT); (try clear hC)
                go_wp2
                go_ret
                exact bolB_ret HB0.out (by rw [Hr.out]; first | done | rfl | (simp; done) | (simp; omega))
            | true =>
              have Hr := Lib.hid (show bareB a = false by simp [bareB, k7, f0, i0, c_s0.out, hT])
              (try clear f0); (try clear i0); (try clear hc); (try clear n0); (try clear k1); (try clear k2); (try clear k3); (try clear k4); (try clear k7); (try rw [hT]); (try clear hT); (try clear hC)
              go_wp2
              go_ret
              exact bolB_ret HB0.out (by rw [Hr.out]; first | done | rfl | (simp; done) | (simp; omega))
          · have c_s0 := Lib.hid (show noS a.s = false by simp [noS, s0])
            have Hr := Lib.hid (show bareB a = false by simp [bareB, k7, f0, i0, c_s0.out])
            (try clear f0); (try clear i0); (try clear hc); (try clear n0); (try clear k1); (try clear k2); (try clear k3); (try clear k4); (try clear k7); (try rw [hT]); (try clear hT); (try clear hC)
            go_wp2
            go_ret
            exact bolB_ret HB0.out (by rw [Hr.out]; first | done | rfl | (simp; done) | (simp; omega))
        · have b_i0 : (a.i == 0) = false := by simpa using i0
          have Hr := Lib.hid (show bareB a = false by simp [bareB, k7, f0, i0])
          (try clear f0); (try clear i0); (try clear hc); (try clear n0); (try clear k1); (try clear k2); (try clear k3); (try clear k4); (try clear k7); (try rw [hT]); (try clear hT); (try clear hC)
          go_wp2
          go_ret
          exact bolB_ret HB0.out (by rw [Hr.out]; first | done | rfl | (simp; done) | (simp; omega))
      · have b_f0 : (a.f == 0) = false := by simpa using f0
        have Hr := Lib.hid (show bareB a = false by simp [bareB, k7, f0])
        (try clear f0); (try clear i0); (try clear hc); (try clear n0); (try clear k1); (try clear k2); (try clear k3); (try clear k4); (try clear k7); (try rw [hT]); (try clear hT); (try clear hC)
        go_wp2
        go_ret
        exact bolB_ret HB0.out (by rw [Hr.out]; first | done | rfl | (simp; done) | (simp; omega))
    have b_k7 : (a.kind == 7) = false := by simpa using k7
    have Hr := Lib.hid (show bareB a = false by simp [bareB, k1, k2, k3, k4, k7])
    (try clear f0); (try clear i0); (try clear hc); (try clear n0); (try clear k1); (try clear k2); (try clear k3); (try clear k4); (try clear k7); (try rw [hT]); (try clear hT); (try clear hC)
    go_wp2
    go_ret
    exact bolB_ret HB0.out (by rw [Hr.out]; first | done | rfl | (simp; done) | (simp; omega))
end Go.Proofs.Ytkcnpnnflbibiaa
