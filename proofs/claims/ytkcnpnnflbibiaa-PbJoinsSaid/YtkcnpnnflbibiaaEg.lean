/- The walks: whether a graph may be told. -/
import Derived.Test.YtkcnpnnflbibiaaEf
import Derived.Test.YtkcnpnnflbibiaaDd
set_option linter.unusedVariables false
namespace Go.Proofs.Ytkcnpnnflbibiaa
open Go.RowKit

def attrT (a : At) : Bool := decide (a.name.size ≤ 100) && bareB a
def nodeT (n : Nd) : Bool := shortB n.op.size n.name.size n.out.size n.ins n.attrs.length && n.attrs.all attrT
def valT (v : Vl) : Bool := (errC v.dims == 0) && typd v.typ && decide (v.name.size ≤ 100)
def initT (t : Nm) : Bool := (tchk t.t == 0) && decide (t.name.size ≤ 100)
def toldB (g : Gr) : Bool := fewG g && g.nodes.all nodeT && g.ins.all valT && g.outs.all valT && g.inits.all initT
/-- Sizes that each argument has. -/
structure GrSz (g : Gr) : Prop where
  few : g.ins.length + g.inits.length + g.nodes.length ≤ 9223372036854775807
  attr : ∀ n ∈ g.nodes, ∀ a ∈ n.attrs, a.t.dims.length + a.t.data.length ≤ 9223372036854775807
theorem all_take {α : Type} (f : α → Bool) {l : List α} {k : Nat} {x : α} (h : l[k]? = some x) : (l.take (k + 1)).all f = ((l.take k).all f && f x) := by
  rw [List.take_add_one, h]; simp
set_option maxRecDepth 100000 in
set_option maxHeartbeats 6400000 in
theorem told_any (g : Gr) (w : World) (Z : Nat → Prop) (An Ai Ao At_ : Option Addr) (nn cn ni ci no co nt ct : Nat) (hn : Slc repNd w Z An nn g.nodes) (hi : Slc repVl w Z Ai ni g.ins) (ho : Slc repVl w Z Ao no g.outs) (ht : Slc repNm w Z At_ nt g.inits) (hZ : ∀ k, Z k → k < w.heap.size) (hsz : GrSz g) :
    Calls Try.prog 32 #[.agg #[.string g.name, .slice An nn cn, .slice Ai ni ci, .slice Ao no co, .slice At_ nt ct]] w (BolB (toldB g) w) := by
  have hb0 : Below w.heap.size w (w.alloc (.cells #[.string g.name, .slice An nn cn, .slice Ai ni ci, .slice Ao no co, .slice At_ nt ct] 34)) := (Below.refl _ _).alloc (Nat.le_refl _) _
  have hg0 := heap_alloc_new w (.cells #[.string g.name, .slice An nn cn, .slice Ai ni ci, .slice Ao no co, .slice At_ nt ct] 34)
  have hfw : ni + nt + nn ≤ 9223372036854775807 := by rw [← hn.len, ← hi.len, ← ht.len]; exact hsz.few
  have HFw := Lib.hid (few_any g.name An Ai Ao At_ nn cn ni ci no co nt ct (w.alloc (.cells #[.string g.name, .slice An nn cn, .slice Ai ni ci, .slice Ao no co, .slice At_ nt ct] 34)) hfw)
  have HB0 := Lib.hid hb0
  have HG0 := Lib.hid hg0
  have Hn := Lib.hid hn
  have Hi := Lib.hid hi
  have Ho := Lib.hid ho
  have Ht := Lib.hid ht
  have HZ := Lib.hid hZ
  have HS := Lib.hid hsz
  have Ln := Lib.hid hn.len
  have Li := Lib.hid hi.len
  have Lo := Lib.hid ho.len
  have Lt := Lib.hid ht.len
  have sn : (nn : Int) ≤ 9223372036854775807 := by have := hn.small; unfold maxLen at this; omega
  have si : (ni : Int) ≤ 9223372036854775807 := by have := hi.small; unfold maxLen at this; omega
  have so : (no : Int) ≤ 9223372036854775807 := by have := ho.small; unfold maxLen at this; omega
  have st : (nt : Int) ≤ 9223372036854775807 := by have := ht.small; unfold maxLen at this; omega
  clear hb0 hg0 hn hi ho ht hZ hsz
  go_enter Try.func32, Try.ntmps32
  go_wp2_with fail
  generalize (w.alloc (.cells #[.string g.name, .slice An nn cn, .slice Ai ni ci, .slice Ao no co, .slice At_ nt ct] 34)) = w0 at HFw HB0 HG0 ⊢
  refine HFw.out.mono ?_
  rintro e w1 ⟨rfl, hb1⟩
  have Hb1 := Lib.hid (HB0.out.trans (hb1.mono HB0.out.size))
  have hg1 := (hb1.block w.heap.size (Array.getElem?_eq_some_iff.1 HG0.out).1).trans HG0.out
  have HG1 := Lib.hid hg1
  have z1 : w.heap.size < w1.heap.size := (Array.getElem?_eq_some_iff.1 hg1).1
  have y1 : w1.cell? ⟨w.heap.size, 1, none⟩ = some (.slice An nn cn) := cell_of_row _ _ 1 _ 34 (0, 0) hg1
  have hfew : fewB g.name.size nn ni no nt = fewG g := by unfold fewG; rw [Ln.out, Li.out, Lo.out, Lt.out]
  rw [hfew]
  clear hb1 hg1 hfew
  go_wp2_with fail
  go_loopw [3, 5, 7, 21] (fun v3 u5 u7 i wr => ∃ k : Nat, k ≤ nn ∧ i = .int .i64 k ∧ v3 = .bool (fewG g && (g.nodes.take k).all nodeT) ∧ Below w1.heap.size w1 wr) (fun _ _ _ i _ => nn - (intOf i).toNat)
  case atStart => exact ⟨0, by omega, rfl, by simp, Below.refl _ _⟩
  case round =>
    obtain ⟨k, hk, rfl, rfl, hbw⟩ := hrel
    have zr := hbw.size
    have Hbr := Lib.hid hbw
    have Hbw := Lib.hid (Hb1.out.trans (hbw.mono Hb1.out.size))
    clear hbw
    generalize hok : (fewG g && (g.nodes.take k).all nodeT) = ok
    have Hok := Lib.hid hok
    clear hok
    by_cases hlt : k < nn
    · obtain ⟨bd, od, x, cs, hA, hbZ, hs, hR, hc⟩ := Hn.out.get hlt
      obtain ⟨d, e, rfl, h3, h4⟩ := hR
      obtain ⟨Ad, nd, cd, rfl, h3⟩ := h3
      obtain ⟨Ae, ne, ce, rfl, h4⟩ := h4
      have x0 : wr.cell? ⟨bd, od + k * 5, none⟩ = some (.string x.op) := (Hbw.out.cell (p := ⟨bd, od + k * 5, none⟩) (by exact HZ.out _ hbZ)).trans (hc 0 (by decide))
      have x1 : wr.cell? ⟨bd, od + k * 5 + 1, none⟩ = some (.string x.name) := (Hbw.out.cell (p := ⟨bd, od + k * 5 + 1, none⟩) (by exact HZ.out _ hbZ)).trans (hc 1 (by decide))
      have x2 : wr.cell? ⟨bd, od + k * 5 + 2, none⟩ = some (.slice Ad nd cd) := (Hbw.out.cell (p := ⟨bd, od + k * 5 + 2, none⟩) (by exact HZ.out _ hbZ)).trans (hc 2 (by decide))
      have x3 : wr.cell? ⟨bd, od + k * 5 + 3, none⟩ = some (.string x.out) := (Hbw.out.cell (p := ⟨bd, od + k * 5 + 3, none⟩) (by exact HZ.out _ hbZ)).trans (hc 3 (by decide))
      have x4 : wr.cell? ⟨bd, od + k * 5 + 4, none⟩ = some (.slice Ae ne ce) := (Hbw.out.cell (p := ⟨bd, od + k * 5 + 4, none⟩) (by exact HZ.out _ hbZ)).trans (hc 4 (by decide))
      subst hA
      have Hs := Lib.hid hs
      have hbt : Below wr.heap.size wr (wr.alloc (.cells #[.string x.op, .string x.name, .slice Ad nd cd, .string x.out, .slice Ae ne ce] 67)) := (Below.refl _ _).alloc (Nat.le_refl _) _
      have hbt2 := Hbw.out.trans (hbt.mono Hbw.out.size)
      have hgt := heap_alloc_new wr (.cells #[.string x.op, .string x.name, .slice Ad nd cd, .string x.out, .slice Ae ne ce] 67)
      have HSh := Lib.hid (short_any x.op x.name x.out x.ins Ad Ae nd cd ne ce (wr.alloc (.cells #[.string x.op, .string x.name, .slice Ad nd cd, .string x.out, .slice Ae ne ce] 67)) Z (h3.keep (fun k hk => hbt2.block k (HZ.out k hk)) (fun _ h => h)) (fun k hk => Nat.lt_of_lt_of_le (HZ.out k hk) hbt2.size) h4.small)
      have Hbt := Lib.hid hbt
      have Hgt := Lib.hid hgt
      have H4 := Lib.hid h4
      have l4 := h4.len
      have L4 := Lib.hid l4
      have s4 : (ne : Int) ≤ 9223372036854775807 := by have := h4.small; unfold maxLen at this; omega
      have wl : wr.heap.size < (wr.alloc (.cells #[.string x.op, .string x.name, .slice Ad nd cd, .string x.out, .slice Ae ne ce] 67)).heap.size := by simp
      clear hc hs h3 h4 l4 hbt hbt2 hgt
      go_upto_region 5 with (fail)
      generalize hW2 : wr.alloc (.cells #[.string x.op, .string x.name, .slice Ad nd cd, .string x.out, .slice Ae ne ce] 67) = w2 at Hbt Hgt HSh wl ⊢
      clear hW2
      go_cut [3] from 25 to 49 (fun v3 wx => v3 = .bool (ok && shortB x.op.size x.name.size x.out.size x.ins x.attrs.length) ∧ Below w2.heap.size w2 wx)
      case first =>
        have t0 : w2.cell? ⟨wr.heap.size, 0, none⟩ = some (.string x.op) := cell_of_row _ _ 0 _ 67 (0, 0) Hgt.out
        have t1 : w2.cell? ⟨wr.heap.size, 1, none⟩ = some (.string x.name) := cell_of_row _ _ 1 _ 67 (0, 0) Hgt.out
        have t2 : w2.cell? ⟨wr.heap.size, 2, none⟩ = some (.slice Ad nd cd) := cell_of_row _ _ 2 _ 67 (0, 0) Hgt.out
        have t3 : w2.cell? ⟨wr.heap.size, 3, none⟩ = some (.string x.out) := cell_of_row _ _ 3 _ 67 (0, 0) Hgt.out
        have t4 : w2.cell? ⟨wr.heap.size, 4, none⟩ = some (.slice Ae ne ce) := cell_of_row _ _ 4 _ 67 (0, 0) Hgt.out
        cases ok with
        | false =>
          go_wp2_with fail
          go_meet
          exact ⟨rfl, Below.refl _ _⟩
        | true =>
          go_wp2_with fail
          refine HSh.out.mono ?_
          rintro e w3 ⟨rfl, hb3⟩
          have Hb3 := Lib.hid hb3
          clear hb3
          go_wp2_with fail
          go_meet
          exact ⟨by rw [L4.out, Bool.true_and], Hb3.out⟩
      case rest =>
        obtain ⟨rfl, hb3⟩ := hcut
        have z3 := hb3.size
        have hg3 := (hb3.block wr.heap.size wl).trans Hgt.out
        have c4 : wc.cell? ⟨wr.heap.size, 4, none⟩ = some (.slice Ae ne ce) := cell_of_row _ _ 4 _ 67 (0, 0) hg3
        have Hb3 := Lib.hid (Hbt.out.trans (hb3.mono Hbt.out.size))
        clear hb3 hg3
        generalize hok2 : (ok && shortB x.op.size x.name.size x.out.size x.ins x.attrs.length) = ok2
        have Hok2 := Lib.hid hok2
        clear hok2
        have Hb1c := Lib.hid (Hbr.out.trans (Hb3.out.mono zr))
        have Hbwc := Lib.hid (Hb1.out.trans (Hb1c.out.mono Hb1.out.size))
        have zc := Hb1c.out.size
        go_wp2_with fail
        go_loopw [3, 7, 33] (fun v3 u7 i wx => ∃ q : Nat, q ≤ ne ∧ i = .int .i64 q ∧ v3 = .bool (ok2 && (x.attrs.take q).all attrT) ∧ Below wc.heap.size wc wx) (fun _ _ i _ => ne - (intOf i).toNat)
        case atStart => exact ⟨0, by omega, rfl, by simp, Below.refl _ _⟩
        case round =>
          obtain ⟨q, hq, rfl, rfl, hbx⟩ := hrel
          have HbX := Lib.hid hbx
          have zx := hbx.size
          have Hbw := Lib.hid (Hbwc.out.trans (hbx.mono Hbwc.out.size))
          clear hbx
          by_cases hlt2 : q < ne
          · obtain ⟨bd, od, aa, cs, hA, hbZ, hs, hR, hc⟩ := H4.out.get hlt2
            obtain ⟨d, e, g2, rfl, h3, h4, h5⟩ := hR
            obtain ⟨A1, n1, c1, rfl, h3⟩ := h3
            obtain ⟨A2, n2, c2, rfl, h4⟩ := h4
            obtain ⟨A3, n3, c3, rfl, h5⟩ := h5
            have hx2 := HS.out.attr x (List.mem_of_getElem? Hs.out) aa (List.mem_of_getElem? hs)
            have x0 : wr.cell? ⟨bd, od + q * 9, none⟩ = some (.string aa.name) := (Hbw.out.cell (p := ⟨bd, od + q * 9, none⟩) (by exact HZ.out _ hbZ)).trans (hc 0 (by decide))
            have x1 : wr.cell? ⟨bd, od + q * 9 + 1, none⟩ = some (.int .i64 aa.kind) := (Hbw.out.cell (p := ⟨bd, od + q * 9 + 1, none⟩) (by exact HZ.out _ hbZ)).trans (hc 1 (by decide))
            have x2 : wr.cell? ⟨bd, od + q * 9 + 2, none⟩ = some (.int .i64 aa.f) := (Hbw.out.cell (p := ⟨bd, od + q * 9 + 2, none⟩) (by exact HZ.out _ hbZ)).trans (hc 2 (by decide))
            have x3 : wr.cell? ⟨bd, od + q * 9 + 3, none⟩ = some (.int .i64 aa.i) := (Hbw.out.cell (p := ⟨bd, od + q * 9 + 3, none⟩) (by exact HZ.out _ hbZ)).trans (hc 3 (by decide))
            have x4 : wr.cell? ⟨bd, od + q * 9 + 4, none⟩ = some (.string aa.s) := (Hbw.out.cell (p := ⟨bd, od + q * 9 + 4, none⟩) (by exact HZ.out _ hbZ)).trans (hc 4 (by decide))
            have x5 : wr.cell? ⟨bd, od + q * 9 + 5, none⟩ = some (.int .i64 aa.t.typ) := (Hbw.out.cell (p := ⟨bd, od + q * 9 + 5, none⟩) (by exact HZ.out _ hbZ)).trans (hc 5 (by decide))
            have x6 : wr.cell? ⟨bd, od + q * 9 + 6, none⟩ = some (.slice A1 n1 c1) := (Hbw.out.cell (p := ⟨bd, od + q * 9 + 6, none⟩) (by exact HZ.out _ hbZ)).trans (hc 6 (by decide))
            have x7 : wr.cell? ⟨bd, od + q * 9 + 7, none⟩ = some (.slice A2 n2 c2) := (Hbw.out.cell (p := ⟨bd, od + q * 9 + 7, none⟩) (by exact HZ.out _ hbZ)).trans (hc 7 (by decide))
            have x8 : wr.cell? ⟨bd, od + q * 9 + 8, none⟩ = some (.slice A3 n3 c3) := (Hbw.out.cell (p := ⟨bd, od + q * 9 + 8, none⟩) (by exact HZ.out _ hbZ)).trans (hc 8 (by decide))
            subst hA
            have Ha := Lib.hid (all_take attrT hs)
            have hbt : Below wr.heap.size wr (wr.alloc (.cells #[.string aa.name, .int .i64 aa.kind, .int .i64 aa.f, .int .i64 aa.i, .string aa.s, .int .i64 aa.t.typ, .slice A1 n1 c1, .slice A2 n2 c2, .slice A3 n3 c3] 88)) := (Below.refl _ _).alloc (Nat.le_refl _) _
            have hbt2 := Hbw.out.trans (hbt.mono Hbw.out.size)
            have HBr := Lib.hid (bare_any aa (wr.alloc (.cells #[.string aa.name, .int .i64 aa.kind, .int .i64 aa.f, .int .i64 aa.i, .string aa.s, .int .i64 aa.t.typ, .slice A1 n1 c1, .slice A2 n2 c2, .slice A3 n3 c3] 88)) w.heap.size A1 A2 A3 n1 c1 n2 c2 n3 c3 ((slc_ints h3 HZ.out).below hbt2 (Nat.le_refl _)) ((slc_ints h4 HZ.out).below hbt2 (Nat.le_refl _)) ((slc_ints h5 HZ.out).below hbt2 (Nat.le_refl _)) hbt2.size hx2)
            have HbX2 := Lib.hid (HbX.out.trans (hbt.mono HbX.out.size))
            clear hc hs h3 h4 h5 hx2 hbt hbt2
            generalize hb : (ok2 && (x.attrs.take q).all attrT) = bq
            have Hq := Lib.hid hb
            clear hb
            cases bq with
            | false =>
              have Hr := Lib.hid (show (ok2 && (x.attrs.take (q + 1)).all attrT) = false by rw [Ha.out, ← Bool.and_assoc, Hq.out, Bool.false_and])
              go_wp2_with fail
              go_roundw
              case rel => exact ⟨q + 1, by omega, by go_num, by first | (rw [Hr.out]; done) | (rw [Hr.out]; congr 1; simp; done) | (rw [Hr.out]; congr 1; simp; omega), HbX2.out⟩
              case measure => simp [intOf]; omega
            | true =>
              by_cases hnm : aa.name.size ≤ 100
              · have Hr := Lib.hid (show (ok2 && (x.attrs.take (q + 1)).all attrT) = bareB aa by rw [Ha.out, ← Bool.and_assoc, Hq.out, Bool.true_and]; simp [attrT, hnm])
                go_wp2_with fail
                refine HBr.out.mono ?_
                rintro e w6 ⟨rfl, hb6⟩
                have Hb6 := Lib.hid (HbX2.out.trans (hb6.mono HbX2.out.size))
                clear hb6
                go_wp2_with fail
                go_roundw
                case rel => exact ⟨q + 1, by omega, by go_num, by first | (rw [Hr.out]; done) | (rw [Hr.out]; congr 1; simp; done) | (rw [Hr.out]; congr 1; simp; omega), Hb6.out⟩
                case measure => simp [intOf]; omega
              · have Hr := Lib.hid (show (ok2 && (x.attrs.take (q + 1)).all attrT) = false by rw [Ha.out, ← Bool.and_assoc, Hq.out, Bool.true_and]; simp [attrT, hnm])
                go_wp2_with fail
                go_roundw
                case rel => exact ⟨q + 1, by omega, by go_num, by first | (rw [Hr.out]; done) | (rw [Hr.out]; congr 1; simp; done) | (rw [Hr.out]; congr 1; simp; omega), HbX2.out⟩
                case measure => simp [intOf]; omega
          · obtain rfl : q = ne := by omega
            have hall : (ok2 && (x.attrs.take q).all attrT) = (fewG g && (g.nodes.take (k + 1)).all nodeT) := by
              have e1 : x.attrs.take q = x.attrs := by rw [← L4.out, List.take_length]
              rw [e1, all_take nodeT Hs.out, ← Bool.and_assoc, Hok.out, ← Hok2.out, Bool.and_assoc]; rfl
            have Hall := Lib.hid hall
            have Hbf := Lib.hid (Hb1c.out.trans (HbX.out.mono zc))
            clear hall
            go_wp2_with fail
            go_roundw
            case rel => exact ⟨k + 1, by omega, by go_num, by rw [Hall.out], Hbf.out⟩
            case measure => simp [intOf]; omega
    · obtain rfl : k = nn := by omega
      have hall : (fewG g && (g.nodes.take k).all nodeT) = (fewG g && g.nodes.all nodeT) := by rw [← Ln.out, List.take_length]
      have hG := (Hbr.out.block w.heap.size z1).trans HG1.out
      have y2 : wr.cell? ⟨w.heap.size, 2, none⟩ = some (.slice Ai ni ci) := cell_of_row _ _ 2 _ 34 (0, 0) hG
      have y3 : wr.cell? ⟨w.heap.size, 3, none⟩ = some (.slice Ao no co) := cell_of_row _ _ 3 _ 34 (0, 0) hG
      rw [Hok.out] at hall
      have Hok1 := Lib.hid hall
      have HG := Lib.hid hG
      clear hall hG
      have HSi := Lib.hid (show ∀ k, k < 2 → ∃ A n c l, (#[Value.slice Ai ni ci, Value.slice Ao no co] : Array Value)[k]? = some (.slice A n c) ∧ Slc repVl w Z A n l ∧ [g.ins, g.outs][k]? = some l from fun k hk => by
        match k, hk with
        | 0, _ => exact ⟨Ai, ni, ci, g.ins, rfl, Hi.out, rfl⟩
        | 1, _ => exact ⟨Ao, no, co, g.outs, rfl, Ho.out, rfl⟩)
      have hbB : Below wr.heap.size wr (wr.alloc (.cells #[.slice Ai ni ci, .slice Ao no co] 31)) := (Below.refl _ _).alloc (Nat.le_refl _) _
      have hgB := heap_alloc_new wr (.cells #[.slice Ai ni ci, .slice Ao no co] 31)
      have wl : wr.heap.size < (wr.alloc (.cells #[.slice Ai ni ci, .slice Ao no co] 31)).heap.size := by simp
      have Hwb := Lib.hid (Hbw.out.trans (hbB.mono Hbw.out.size))
      have HGB := Lib.hid hgB
      have HGb := Lib.hid ((hbB.block w.heap.size (by omega)).trans HG.out)
      have zw := Hbw.out.size
      clear hbB hgB
      go_wp2_with fail
      generalize hW2 : wr.alloc (.cells #[.slice Ai ni ci, .slice Ao no co] 31) = wb at Hwb HGB HGb wl ⊢
      clear hW2
      generalize hgb : wr.heap.size = gB at HGB wl zw ⊢
      clear hgb
      go_loopw [3, 9, 11, 12, 13, 56] (fun v3 u9 u11 u12 u13 i wr => ∃ k : Nat, k ≤ 2 ∧ i = .int .i64 k ∧ v3 = .bool (ok && ([g.ins, g.outs].take k).all (fun l => l.all valT)) ∧ Below wb.heap.size wb wr) (fun _ _ _ _ _ i _ => 2 - (intOf i).toNat)
      case atStart => exact ⟨0, by omega, rfl, by simp, Below.refl _ _⟩
      case round =>
        obtain ⟨j, hj, rfl, rfl, hbj⟩ := hrel
        have zj := hbj.size
        have Hbj := Lib.hid hbj
        have Hbwj := Lib.hid (Hwb.out.trans (hbj.mono Hwb.out.size))
        have hgj := (hbj.block _ wl).trans HGB.out
        have HGj := Lib.hid hgj
        clear hbj
        generalize hokj : (ok && ([g.ins, g.outs].take j).all (fun l => l.all valT)) = okj
        have Hokj := Lib.hid hokj
        clear hokj
        by_cases hlj : j < 2
        · obtain ⟨A, n, c, l, hcj, hsl, hlj2⟩ := HSi.out j hlj
          have hdj : decide ((j : Int) < 2) = true := by simp; omega
          have cj : wr.cell? ⟨gB, j, none⟩ = some (.slice A n c) := (cell_of_row _ _ j _ 31 (0, 0) hgj).trans hcj
          have Hsl := Lib.hid hsl
          have Hlj := Lib.hid (all_take (fun l => List.all l valT) hlj2)
          have Ln2 := Lib.hid hsl.len
          have sn2 : (n : Int) ≤ 9223372036854775807 := by have := hsl.small; unfold maxLen at this; omega
          clear hgj hcj hsl hlj2
          go_wp2_with fail
          go_loopw [3, 11, 12, 13, 62] (fun v3 u11 u12 u13 i wx => ∃ q : Nat, q ≤ n ∧ i = .int .i64 q ∧ v3 = .bool (okj && (l.take q).all valT) ∧ Below wb.heap.size wb wx) (fun _ _ _ _ i _ => n - (intOf i).toNat)
          case atStart => exact ⟨0, by omega, rfl, by simp, Hbj.out⟩
          case round =>
            obtain ⟨q, hq, rfl, rfl, hbx⟩ := hrel
            have HbX := Lib.hid hbx
            have zx := hbx.size
            have Hbw := Lib.hid (Hwb.out.trans (hbx.mono Hwb.out.size))
            clear hbx
            by_cases hlt2 : q < n
            · obtain ⟨bd, od, aa, cs, hA, hbZ, hs, hR, hc⟩ := Hsl.out.get hlt2
              obtain ⟨d, rfl, h3⟩ := hR
              obtain ⟨A1, n1, c1, rfl, h3⟩ := h3
              have x0 : wr.cell? ⟨bd, od + q * 3, none⟩ = some (.string aa.name) := (Hbw.out.cell (p := ⟨bd, od + q * 3, none⟩) (by exact HZ.out _ hbZ)).trans (hc 0 (by decide))
              have x1 : wr.cell? ⟨bd, od + q * 3 + 1, none⟩ = some (.int .i64 aa.typ) := (Hbw.out.cell (p := ⟨bd, od + q * 3 + 1, none⟩) (by exact HZ.out _ hbZ)).trans (hc 1 (by decide))
              have x2 : wr.cell? ⟨bd, od + q * 3 + 2, none⟩ = some (.slice A1 n1 c1) := (Hbw.out.cell (p := ⟨bd, od + q * 3 + 2, none⟩) (by exact HZ.out _ hbZ)).trans (hc 2 (by decide))
              subst hA
              have Ha := Lib.hid (all_take valT hs)
              have hbt : Below wr.heap.size wr (wr.alloc (.cells #[.string aa.name, .int .i64 aa.typ, .slice A1 n1 c1] 81)) := (Below.refl _ _).alloc (Nat.le_refl _) _
              have hbt2 := Hbw.out.trans (hbt.mono Hbw.out.size)
              have hcx : CountIs aa.dims (if errC aa.dims = 0 then prod aa.dims else 0) (errC aa.dims) := ⟨rfl, rfl⟩
              generalize (if errC aa.dims = 0 then prod aa.dims else 0) = xx at hcx
              have HCt := Lib.hid (count_any (wr.alloc (.cells #[.string aa.name, .int .i64 aa.typ, .slice A1 n1 c1] 81)) w.heap.size A1 n1 c1 aa.dims ((slc_ints h3 HZ.out).below hbt2 (Nat.le_refl _)) xx _ hcx)
              have HbX2 := Lib.hid (HbX.out.trans (hbt.mono HbX.out.size))
              have HTy := Lib.hid (typed_any aa.typ)
              clear hc hs h3 hbt hbt2 hcx
              generalize hb : (okj && (l.take q).all valT) = bq
              have Hq := Lib.hid hb
              clear hb
              have Hr0 := Lib.hid (show (okj && (l.take (q + 1)).all valT) = (bq && valT aa) by rw [Ha.out, ← Bool.and_assoc, Hq.out])
              go_wp2_with fail
              refine HCt.out.mono ?_
              rintro e w6 ⟨rfl, rfl⟩
              cases bq with
              | false =>
                have Hr := Lib.hid (show (okj && (l.take (q + 1)).all valT) = false by rw [Hr0.out]; simp [valT])
                go_wp2_with fail
                go_roundw
                case rel => exact ⟨q + 1, by omega, by go_num, by first | (rw [Hr.out]; done) | (rw [Hr.out]; congr 1; simp; done) | (rw [Hr.out]; congr 1; simp; omega), HbX2.out⟩
                case measure => simp [intOf]; omega
              | true =>
                by_cases he : errC aa.dims = 0
                · have b_e : (errC aa.dims == 0) = true := by simpa using he
                  cases hty : typd aa.typ with
                  | false =>
                    rw [hty] at HTy
                    have Hr := Lib.hid (show (okj && (l.take (q + 1)).all valT) = false by rw [Hr0.out]; simp [valT, hty])
                    clear he hty
                    go_wp2_with fail
                    refine (HTy.out _).mono ?_
                    rintro e w7 ⟨rfl, rfl⟩
                    go_wp2_with fail
                    go_roundw
                    case rel => exact ⟨q + 1, by omega, by go_num, by first | (rw [Hr.out]; done) | (rw [Hr.out]; congr 1; simp; done) | (rw [Hr.out]; congr 1; simp; omega), HbX2.out⟩
                    case measure => simp [intOf]; omega
                  | true =>
                    rw [hty] at HTy
                    by_cases hnm : aa.name.size ≤ 100
                    · skip
                      have Hr := Lib.hid (show (okj && (l.take (q + 1)).all valT) = true by rw [Hr0.out]; simp [valT, hty, he, hnm])
                      clear he hty
                      go_wp2_with fail
                      refine (HTy.out _).mono ?_
                      rintro e w7 ⟨rfl, rfl⟩
                      go_wp2_with fail
                      go_roundw
                      case rel => exact ⟨q + 1, by omega, by go_num, by first | (rw [Hr.out]; done) | (rw [Hr.out]; congr 1; simp; done) | (rw [Hr.out]; congr 1; simp; omega), HbX2.out⟩
                      case measure => simp [intOf]; omega
                    · skip
                      have Hr := Lib.hid (show (okj && (l.take (q + 1)).all valT) = false by rw [Hr0.out]; simp [valT, hty, he, hnm])
                      clear he hty
                      go_wp2_with fail
                      refine (HTy.out _).mono ?_
                      rintro e w7 ⟨rfl, rfl⟩
                      go_wp2_with fail
                      go_roundw
                      case rel => exact ⟨q + 1, by omega, by go_num, by first | (rw [Hr.out]; done) | (rw [Hr.out]; congr 1; simp; done) | (rw [Hr.out]; congr 1; simp; omega), HbX2.out⟩
                      case measure => simp [intOf]; omega
                · have b_e : (errC aa.dims == 0) = false := by simpa using he
                  have Hr := Lib.hid (show (okj && (l.take (q + 1)).all valT) = false by rw [Hr0.out]; simp [valT, he])
                  clear he
                  go_wp2_with fail
                  go_roundw
                  case rel => exact ⟨q + 1, by omega, by go_num, by first | (rw [Hr.out]; done) | (rw [Hr.out]; congr 1; simp; done) | (rw [Hr.out]; congr 1; simp; omega), HbX2.out⟩
                  case measure => simp [intOf]; omega
            · obtain rfl : q = n := by omega
              have hall : (okj && (l.take q).all valT) = (ok && ([g.ins, g.outs].take (j + 1)).all (fun l => l.all valT)) := by
                have e1 : l.take q = l := by rw [← Ln2.out, List.take_length]
                rw [e1, Hlj.out, ← Bool.and_assoc, Hokj.out]
              have Hall := Lib.hid hall
              clear hall
              go_wp2_with fail
              go_roundw
              case rel => exact ⟨j + 1, by omega, by go_num, by rw [Hall.out], HbX.out⟩
              case measure => simp [intOf]; omega
        · have hall : okj = (fewG g && g.nodes.all nodeT && g.ins.all valT && g.outs.all valT) := by
            have hj2 : j = 2 := by omega
            rw [← Hokj.out, Hok1.out, hj2]; simp [Bool.and_assoc]
          have Hok3 := Lib.hid hall
          have hG := (Hbj.out.block w.heap.size (by omega)).trans HGb.out
          have y4 : wr.cell? ⟨w.heap.size, 4, none⟩ = some (.slice At_ nt ct) := cell_of_row _ _ 4 _ 34 (0, 0) hG
          clear hall hG hgj
          go_wp2_with fail
          go_loopw [3, 15, 93] (fun v3 u15 i wx => ∃ q : Nat, q ≤ nt ∧ i = .int .i64 q ∧ v3 = .bool (okj && (g.inits.take q).all initT) ∧ Below wb.heap.size wb wx) (fun _ _ i _ => nt - (intOf i).toNat)
          case atStart => exact ⟨0, by omega, rfl, by simp, Hbj.out⟩
          case round =>
            obtain ⟨q, hq, rfl, rfl, hbx⟩ := hrel
            have HbX := Lib.hid hbx
            have zx := hbx.size
            have Hbw := Lib.hid (Hwb.out.trans (hbx.mono Hwb.out.size))
            clear hbx
            by_cases hlt2 : q < nt
            · obtain ⟨bd, od, aa, cs, hA, hbZ, hs, hR, hc⟩ := Ht.out.get hlt2
              obtain ⟨d, e, rfl, h3, h4⟩ := hR
              obtain ⟨A1, n1, c1, rfl, h3⟩ := h3
              obtain ⟨A2, n2, c2, rfl, h4⟩ := h4
              have x0 : wr.cell? ⟨bd, od + q * 4, none⟩ = some (.string aa.name) := (Hbw.out.cell (p := ⟨bd, od + q * 4, none⟩) (by exact HZ.out _ hbZ)).trans (hc 0 (by decide))
              have x1 : wr.cell? ⟨bd, od + q * 4 + 1, none⟩ = some (.int .i64 aa.t.typ) := (Hbw.out.cell (p := ⟨bd, od + q * 4 + 1, none⟩) (by exact HZ.out _ hbZ)).trans (hc 1 (by decide))
              have x2 : wr.cell? ⟨bd, od + q * 4 + 2, none⟩ = some (.slice A1 n1 c1) := (Hbw.out.cell (p := ⟨bd, od + q * 4 + 2, none⟩) (by exact HZ.out _ hbZ)).trans (hc 2 (by decide))
              have x3 : wr.cell? ⟨bd, od + q * 4 + 3, none⟩ = some (.slice A2 n2 c2) := (Hbw.out.cell (p := ⟨bd, od + q * 4 + 3, none⟩) (by exact HZ.out _ hbZ)).trans (hc 3 (by decide))
              subst hA
              have Ha := Lib.hid (all_take initT hs)
              have hbt : Below wr.heap.size wr (wr.alloc (.cells #[.string aa.name, .int .i64 aa.t.typ, .slice A1 n1 c1, .slice A2 n2 c2] 69)) := (Below.refl _ _).alloc (Nat.le_refl _) _
              have hbt2 := Hbw.out.trans (hbt.mono Hbw.out.size)
              have HCt := Lib.hid (check_any aa.t (wr.alloc (.cells #[.string aa.name, .int .i64 aa.t.typ, .slice A1 n1 c1, .slice A2 n2 c2] 69)) w.heap.size A1 A2 n1 c1 n2 c2 ((slc_ints h3 HZ.out).below hbt2 (Nat.le_refl _)) ((slc_ints h4 HZ.out).below hbt2 (Nat.le_refl _)) hbt2.size)
              have HbX2 := Lib.hid (HbX.out.trans (hbt.mono HbX.out.size))
              have HGt := Lib.hid (heap_alloc_new wr (.cells #[.string aa.name, .int .i64 aa.t.typ, .slice A1 n1 c1, .slice A2 n2 c2] 69))
              have wlt : wr.heap.size < (wr.alloc (.cells #[.string aa.name, .int .i64 aa.t.typ, .slice A1 n1 c1, .slice A2 n2 c2] 69)).heap.size := by simp
              clear hc hs h3 h4 hbt hbt2
              generalize hb : (okj && (g.inits.take q).all initT) = bq
              have Hq := Lib.hid hb
              clear hb
              have Hr0 := Lib.hid (show (okj && (g.inits.take (q + 1)).all initT) = (bq && initT aa) by rw [Ha.out, ← Bool.and_assoc, Hq.out])
              cases bq with
              | false =>
                have Hr := Lib.hid (show (okj && (g.inits.take (q + 1)).all initT) = false by rw [Hr0.out, Bool.false_and])
                go_wp2_with fail
                go_roundw
                case rel => exact ⟨q + 1, by omega, by go_num, by first | (rw [Hr.out]; done) | (rw [Hr.out]; congr 1; simp; done) | (rw [Hr.out]; congr 1; simp; omega), HbX2.out⟩
                case measure => simp [intOf]; omega
              | true =>
                go_wp2_with fail
                refine HCt.out.mono ?_
                rintro e w6 ⟨rfl, hb6⟩
                have Hb6 := Lib.hid (HbX2.out.trans (hb6.mono HbX2.out.size))
                have t0 : w6.cell? ⟨wr.heap.size, 0, none⟩ = some (.string aa.name) := cell_of_row _ _ 0 _ 69 (0, 0) ((hb6.block _ wlt).trans HGt.out)
                clear hb6
                by_cases he : tchk aa.t = 0
                · have b_e : (tchk aa.t == 0) = true := by simpa using he
                  by_cases hnm : aa.name.size ≤ 100
                  · have Hr := Lib.hid (show (okj && (g.inits.take (q + 1)).all initT) = true by rw [Hr0.out]; simp [initT, he, hnm])
                    clear he
                    go_wp2_with fail
                    go_roundw
                    case rel => exact ⟨q + 1, by omega, by go_num, by first | (rw [Hr.out]; done) | (rw [Hr.out]; congr 1; simp; done) | (rw [Hr.out]; congr 1; simp; omega), Hb6.out⟩
                    case measure => simp [intOf]; omega
                  · have Hr := Lib.hid (show (okj && (g.inits.take (q + 1)).all initT) = false by rw [Hr0.out]; simp [initT, he, hnm])
                    clear he
                    go_wp2_with fail
                    go_roundw
                    case rel => exact ⟨q + 1, by omega, by go_num, by first | (rw [Hr.out]; done) | (rw [Hr.out]; congr 1; simp; done) | (rw [Hr.out]; congr 1; simp; omega), Hb6.out⟩
                    case measure => simp [intOf]; omega
                · have b_e : (tchk aa.t == 0) = false := by simpa using he
                  have Hr := Lib.hid (show (okj && (g.inits.take (q + 1)).all initT) = false by rw [Hr0.out]; simp [initT, he])
                  clear he
                  go_wp2_with fail
                  go_roundw
                  case rel => exact ⟨q + 1, by omega, by go_num, by first | (rw [Hr.out]; done) | (rw [Hr.out]; congr 1; simp; done) | (rw [Hr.out]; congr 1; simp; omega), Hb6.out⟩
                  case measure => simp [intOf]; omega
            · obtain rfl : q = nt := by omega
              have hall : (okj && (g.inits.take q).all initT) = toldB g := by
                rw [← Lt.out, List.take_length, Hok3.out]; simp [toldB, Bool.and_assoc]
              have Hall := Lib.hid hall
              clear hall
              go_wp2
              go_ret
              exact bolB_ret Hbw.out Hall.out
end Go.Proofs.Ytkcnpnnflbibiaa
