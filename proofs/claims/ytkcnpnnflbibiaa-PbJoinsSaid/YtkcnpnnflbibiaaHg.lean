/- The walks: which graphs may be told, by the reference. -/
import Derived.Test.YtkcnpnnflbibiaaHe
import Derived.Test.YtkcnpnnflbibiaaHa
import Derived.Test.YtkcnpnnflbibiaaEi
set_option linter.unusedVariables false
namespace Go.Proofs.Ytkcnpnnflbibiaa
open Go.RowKit

theorem all_no {α : Type} {f : α → Bool} {l : List α} {k : Nat} {x : α} (h : l[k]? = some x) (hx : f x = false) : l.all f = false := by
  rw [List.all_eq_false]; exact ⟨x, List.mem_of_getElem? h, by simp [hx]⟩
theorem all_more {α : Type} {f : α → Bool} {l : List α} {k : Nat} {x : α} (h : l[k]? = some x) (hk : (l.take k).all f = true) (hx : f x = true) : (l.take (k + 1)).all f = true := by
  rw [all_take f h, hk, hx]; rfl
theorem OwnL.slcAll {α : Type} {ρ : Rep α} {e : TypeId} {w : World} {B : Nat} {Z : Nat → Prop} {A : Option Addr} {n c : Nat} {l : List α} (h : OwnL ρ e w B Z (.slice A n c) l) (hn : n = l.length) (hsz : 0 < ρ.sz) (hZ : ∀ k, Z k → k < w.heap.size) : Slc ρ w (fun k => k < w.heap.size) A n l :=
  h.slc hn hsz hZ (fun a ha => by
    subst ha
    exact (h.lt _ (by
      obtain ⟨xs, hx, _⟩ := h.own
      rcases hx.2 with ⟨h1, _⟩ | ⟨g, cap, cur, h1, _⟩
      · simp at h1
      · simp only [Value.slice.injEq] at h1
        obtain ⟨h2, -, -⟩ := h1
        cases h2
        rfl)).2)
/-- The list of both lists. -/
structure Both (w wr : World) (A : Option Addr) (n : Nat) (l : List Vl) : Prop where
  below : Below w.heap.size w wr
  slc : Slc repVl wr (fun k => k < wr.heap.size) A n l
set_option maxRecDepth 100000 in
set_option maxHeartbeats 6400000 in
theorem rtold_any (g : Gr) (w : World) (Z : Nat → Prop) (An Ai Ao At_ : Option Addr) (nn cn ni ci no co nt ct : Nat) (hn : Slc repNd w Z An nn g.nodes) (hi : Slc repVl w Z Ai ni g.ins) (ho : Slc repVl w Z Ao no g.outs) (ht : Slc repNm w Z At_ nt g.inits) (hZ : ∀ k, Z k → k < w.heap.size)
    (hfw : ni + nt + nn ≤ 9223372036854775807) (z2 : ni ≤ 16777216) (z3 : no ≤ 16777216) :
    Calls Try.prog 14 #[.agg #[.string g.name, .slice An nn cn, .slice Ai ni ci, .slice Ao no co, .slice At_ nt ct]] w (BolB (toldB g) w) := by
  obtain ⟨i81, hi81, hz810, hz811, hz812⟩ := info_parts Try.info81
  have HI81 := Lib.hid (show _ ∧ _ ∧ _ ∧ _ from ⟨hi81, hz810, hz811, hz812⟩)
  have hb0 : Below w.heap.size w (w.alloc (.cells #[.string g.name, .slice An nn cn, .slice Ai ni ci, .slice Ao no co, .slice At_ nt ct] 34)) := (Below.refl _ _).alloc (Nat.le_refl _) _
  have hg0 := heap_alloc_new w (.cells #[.string g.name, .slice An nn cn, .slice Ai ni ci, .slice Ao no co, .slice At_ nt ct] 34)
  have HFw := Lib.hid (rfew_any g.name An Ai Ao At_ nn cn ni ci no co nt ct (w.alloc (.cells #[.string g.name, .slice An nn cn, .slice Ai ni ci, .slice Ao no co, .slice At_ nt ct] 34)) hfw)
  have HB0 := Lib.hid hb0
  have HG0 := Lib.hid hg0
  have Hn := Lib.hid hn
  have Hi := Lib.hid hi
  have Ho := Lib.hid ho
  have Ht := Lib.hid ht
  have HZ := Lib.hid hZ
  have Ln := Lib.hid hn.len
  have Li := Lib.hid hi.len
  have Lo := Lib.hid ho.len
  have Lt := Lib.hid ht.len
  have sn : (nn : Int) ≤ 9223372036854775807 := by have := hn.small; unfold maxLen at this; omega
  have st : (nt : Int) ≤ 9223372036854775807 := by have := ht.small; unfold maxLen at this; omega
  clear hb0 hg0 hn hi ho ht hZ hi81 hz810 hz811 hz812
  go_enter Try.func14, Try.ntmps14
  go_wp2_with fail
  generalize (w.alloc (.cells #[.string g.name, .slice An nn cn, .slice Ai ni ci, .slice Ao no co, .slice At_ nt ct] 34)) = w0 at HFw HB0 HG0 ⊢
  refine HFw.out.mono ?_
  rintro e w1 ⟨rfl, hb1⟩
  have Hb1 := Lib.hid (HB0.out.trans (hb1.mono HB0.out.size))
  have hg1 := (hb1.block w.heap.size (Array.getElem?_eq_some_iff.1 HG0.out).1).trans HG0.out
  have HG1 := Lib.hid hg1
  have zw1 : w.heap.size < w1.heap.size := (Array.getElem?_eq_some_iff.1 hg1).1
  have hfew : fewB g.name.size nn ni no nt = fewG g := by unfold fewG; rw [Ln.out, Li.out, Lo.out, Lt.out]
  rw [hfew]
  clear hb1 hg1 hfew
  cases hfg : fewG g with
  | false =>
    have Hr := Lib.hid (show toldB g = false by simp [toldB, hfg])
    clear hfg
    go_wp2
    go_ret
    exact bolB_ret Hb1.out Hr.out.symm
  | true =>
  have Hfg := Lib.hid hfg
  clear hfg
  go_wp2_with fail
  go_loopw [3, 4] (fun i u4 wr => ∃ k : Nat, k ≤ nn ∧ i = .int .i64 k ∧ (g.nodes.take k).all nodeT = true ∧ Below w1.heap.size w1 wr) (fun i _ _ => nn - (intOf i).toNat)
  case atStart => exact ⟨0, by omega, rfl, by simp, Below.refl _ _⟩
  case round =>
    obtain ⟨k, hk, rfl, hall, hbw⟩ := hrel
    have zr := hbw.size
    have Hbr := Lib.hid hbw
    have Hbw := Lib.hid (Hb1.out.trans (hbw.mono Hb1.out.size))
    have Hall := Lib.hid hall
    have HGr := Lib.hid ((hbw.block w.heap.size zw1).trans HG1.out)
    clear hbw hall
    have y1 : wr.cell? ⟨w.heap.size, 1, none⟩ = some (.slice An nn cn) := cell_of_row _ _ 1 _ 34 (0, 0) HGr.out
    by_cases hlt : k < nn
    · obtain ⟨bd, od, x, cs, hA, hbZ, hs, hR, hc⟩ := Hn.out.get hlt
      obtain ⟨d, e, rfl, h3, h4⟩ := hR
      obtain ⟨Ad, nd, cd, rfl, h3⟩ := h3
      obtain ⟨Ae, ne, ce, rfl, h4⟩ := h4
      have x0 : wr.cell? ⟨bd, od + k * 5, none⟩ = some (.string x.op) := (Hbw.out.cell (p := ⟨bd, od + k * 5, none⟩) (by exact HZ.out _ hbZ)).trans (hc 0 (by decide))
      have x1 : wr.cell? ⟨bd, od + k * 5 + 1, none⟩ = some (.string x.name) := (Hbw.out.cell (p := ⟨bd, od + k * 5 + 1, none⟩) (by exact HZ.out _ hbZ)).trans (hc 1 (by decide))
      have x2 : wr.cell? ⟨bd, od + k * 5 + 2, none⟩ = some (.slice Ad nd cd) := (Hbw.out.cell (p := ⟨bd, od + k * 5 + 2, none⟩) (by exact HZ.out _ hbZ)).trans (hc 2 (by decide))
      have x3 : wr.cell? ⟨bd, od + k * 5 + 3, none⟩ = some (.string x.out) := (Hbw.out.cell (p := ⟨bd, od + k * 5 + 3, none⟩) (by exact HZ.out _ hbZ)).trans (hc 3 (by decide))
      have x4 : wr.cell? ⟨bd, od + k * 5 + 4, none⟩ = some (.slice Ae ne ce) := (Hbw.out.cell (p := ⟨bd, od + k * 5 + 4, none⟩) (by exact HZ.out _ hbZ)).trans (hc 4 (by decide))
      have HcN := Lib.hid (hc 4 (by decide))
      have HbdL := Lib.hid (HZ.out _ hbZ)
      subst hA
      have Hs := Lib.hid hs
      have HSh := Lib.hid (rshort_any x.op x.name x.out x.ins Ad Ae nd cd ne ce wr Z (h3.keep (fun k hk => Hbw.out.block k (HZ.out k hk)) (fun _ h => h)) (fun k hk => Nat.lt_of_lt_of_le (HZ.out k hk) Hbw.out.size) h4.small)
      have H4 := Lib.hid h4
      have l4 := h4.len
      have L4 := Lib.hid l4
      have s4 : (ne : Int) ≤ 9223372036854775807 := by have := h4.small; unfold maxLen at this; omega
      clear hc hs h3 h4 l4
      go_wp2_with fail
      refine HSh.out.mono ?_
      rintro e w2 ⟨rfl, hb2⟩
      have Hb2 := Lib.hid (Hbr.out.trans (hb2.mono zr))
      clear hb2
      cases hsh : shortB x.op.size x.name.size x.out.size x.ins ne with
      | false =>
        have Hr := Lib.hid (show toldB g = false by
          have : nodeT x = false := by unfold nodeT; rw [L4.out, hsh]; rfl
          simp [toldB, all_no Hs.out this])
        have Hbf := Lib.hid (Hb1.out.trans (Hb2.out.mono Hb1.out.size))
        clear hsh
        go_wp2
        go_ret
        exact bolB_ret Hbf.out Hr.out.symm
      | true =>
      have Hsh := Lib.hid (show shortB x.op.size x.name.size x.out.size x.ins x.attrs.length = true by rw [L4.out]; exact hsh)
      clear hsh x0 x1 x2 x3 x4 y1
      go_wp2_with fail
      go_loopw [4] (fun i wx => ∃ q : Nat, q ≤ ne ∧ i = .int .i64 q ∧ (x.attrs.take q).all attrT = true ∧ Below w1.heap.size w1 wx) (fun i _ => ne - (intOf i).toNat)
      case atStart => exact ⟨0, by omega, rfl, by simp, Hb2.out⟩
      case round =>
        obtain ⟨q, hq, rfl, hall, hbx⟩ := hrel
        have zx := hbx.size
        have HbX := Lib.hid hbx
        have Hbw := Lib.hid (Hb1.out.trans (hbx.mono Hb1.out.size))
        have Hallq := Lib.hid hall
        have HGr := Lib.hid ((hbx.block w.heap.size zw1).trans HG1.out)
        have y1 : wr.cell? ⟨w.heap.size, 1, none⟩ = some (.slice (some ⟨bd, od, none⟩) nn cn) := cell_of_row _ _ 1 _ 34 (0, 0) HGr.out
        have v4 : wr.cell? ⟨bd, od + k * 5 + 4, none⟩ = some (.slice Ae ne ce) := (Hbw.out.cell (p := ⟨bd, od + k * 5 + 4, none⟩) (by exact HbdL.out)).trans HcN.out
        clear hbx hall
        by_cases hlt2 : q < ne
        · obtain ⟨bd2, od2, aa, cs, hA, hbZ, hs, hR, hc⟩ := H4.out.get hlt2
          obtain ⟨d, e, g2, rfl, h3, h4, h5⟩ := hR
          obtain ⟨A1, n1, c1, rfl, h3⟩ := h3
          obtain ⟨A2, n2, c2, rfl, h4⟩ := h4
          obtain ⟨A3, n3, c3, rfl, h5⟩ := h5
          have x0 : wr.cell? ⟨bd2, od2 + q * 9, none⟩ = some (.string aa.name) := (Hbw.out.cell (p := ⟨bd2, od2 + q * 9, none⟩) (by exact HZ.out _ hbZ)).trans (hc 0 (by decide))
          have x1 : wr.cell? ⟨bd2, od2 + q * 9 + 1, none⟩ = some (.int .i64 aa.kind) := (Hbw.out.cell (p := ⟨bd2, od2 + q * 9 + 1, none⟩) (by exact HZ.out _ hbZ)).trans (hc 1 (by decide))
          have x2 : wr.cell? ⟨bd2, od2 + q * 9 + 2, none⟩ = some (.int .i64 aa.f) := (Hbw.out.cell (p := ⟨bd2, od2 + q * 9 + 2, none⟩) (by exact HZ.out _ hbZ)).trans (hc 2 (by decide))
          have x3 : wr.cell? ⟨bd2, od2 + q * 9 + 3, none⟩ = some (.int .i64 aa.i) := (Hbw.out.cell (p := ⟨bd2, od2 + q * 9 + 3, none⟩) (by exact HZ.out _ hbZ)).trans (hc 3 (by decide))
          have x4 : wr.cell? ⟨bd2, od2 + q * 9 + 4, none⟩ = some (.string aa.s) := (Hbw.out.cell (p := ⟨bd2, od2 + q * 9 + 4, none⟩) (by exact HZ.out _ hbZ)).trans (hc 4 (by decide))
          have x5 : wr.cell? ⟨bd2, od2 + q * 9 + 5, none⟩ = some (.int .i64 aa.t.typ) := (Hbw.out.cell (p := ⟨bd2, od2 + q * 9 + 5, none⟩) (by exact HZ.out _ hbZ)).trans (hc 5 (by decide))
          have x6 : wr.cell? ⟨bd2, od2 + q * 9 + 6, none⟩ = some (.slice A1 n1 c1) := (Hbw.out.cell (p := ⟨bd2, od2 + q * 9 + 6, none⟩) (by exact HZ.out _ hbZ)).trans (hc 6 (by decide))
          have x7 : wr.cell? ⟨bd2, od2 + q * 9 + 7, none⟩ = some (.slice A2 n2 c2) := (Hbw.out.cell (p := ⟨bd2, od2 + q * 9 + 7, none⟩) (by exact HZ.out _ hbZ)).trans (hc 7 (by decide))
          have x8 : wr.cell? ⟨bd2, od2 + q * 9 + 8, none⟩ = some (.slice A3 n3 c3) := (Hbw.out.cell (p := ⟨bd2, od2 + q * 9 + 8, none⟩) (by exact HZ.out _ hbZ)).trans (hc 8 (by decide))
          subst hA
          have Hs2 := Lib.hid hs
          have HBr := Lib.hid (rattr_any aa wr w.heap.size A1 A2 A3 n1 c1 n2 c2 n3 c3 ((slc_ints h3 HZ.out).below Hbw.out (Nat.le_refl _)) ((slc_ints h4 HZ.out).below Hbw.out (Nat.le_refl _)) ((slc_ints h5 HZ.out).below Hbw.out (Nat.le_refl _)) Hbw.out.size)
          clear hc hs h3 h4 h5
          go_wp2_with fail
          refine HBr.out.mono ?_
          rintro e w6 ⟨rfl, hb6⟩
          have Hb6 := Lib.hid (HbX.out.trans (hb6.mono HbX.out.size))
          clear hb6
          cases hat : attrT aa with
          | false =>
            have Hr := Lib.hid (show toldB g = false by
              have : nodeT x = false := by unfold nodeT; rw [all_no Hs2.out hat, Bool.and_false]
              simp [toldB, all_no Hs.out this])
            have Hbf := Lib.hid (Hb1.out.trans (Hb6.out.mono Hb1.out.size))
            clear hat
            go_wp2
            go_ret
            exact bolB_ret Hbf.out Hr.out.symm
          | true =>
            have Hm := Lib.hid (all_more Hs2.out Hallq.out hat)
            clear hat
            go_wp2_with fail
            go_roundw
            case rel => exact ⟨q + 1, by omega, by go_num, Hm.out, Hb6.out⟩
            case measure => simp [intOf]; omega
        · obtain rfl : q = ne := by omega
          have Hm := Lib.hid (all_more (f := nodeT) Hs.out Hall.out (by
            have e1 := Hallq.out
            rw [← L4.out, List.take_length] at e1
            unfold nodeT; rw [Hsh.out, e1]; rfl))
          go_wp2_with fail
          go_roundw
          case rel => exact ⟨k + 1, by omega, by go_num, Hm.out, HbX.out⟩
          case measure => simp [intOf]; omega
    · obtain rfl : k = nn := by omega
      have Hnod := Lib.hid (show g.nodes.all nodeT = true by have := Hall.out; rwa [← Ln.out, List.take_length] at this)
      have y2 : wr.cell? ⟨w.heap.size, 2, none⟩ = some (.slice Ai ni ci) := cell_of_row _ _ 2 _ 34 (0, 0) HGr.out
      have H2k := Lib.hid (Hi.out.keep (w' := wr) (Z' := fun k => k < w.heap.size) (fun k hk => Hbw.out.block k (HZ.out k hk)) (fun k hk => HZ.out k hk))
      have zw := Hbw.out.size
      go_wp2_with (first
        | (at_builtin; refine wpList_append_l wr rfl (.tmp 49) (.tmp 51) 31 rfl repVl 81 i81 _ 48 Try.underlying31 HI81.out.1 HI81.out.2.1 HI81.out.2.2.1 HI81.out.2.2.2 rfl (by decide) wr.heap.size (fun k => k < w.heap.size) (.slice none 0 0) [] rfl ownL_nil (fun k => k < w.heap.size) Ai ni ci g.ins rfl H2k.out (fun k hk => ⟨by omega, by simp [Value.ownBlock]⟩) (fun k hk => ⟨by omega, by simp [Value.ownBlock]⟩) (by rw [Li.out]; simp; omega) (by rw [Li.out]; unfold maxLen; simp; omega) (Nat.le_refl _) ?_; intro v5 w5 own5 gr5 _; have own5' : OwnL repVl 81 w5 wr.heap.size (fun k => k < w.heap.size) v5 g.ins := own5 _ (fun _ h => h) (fun _ h => h); have hb5 : Below wr.heap.size wr w5 := (Below.refl _ _).grown gr5 (Nat.le_refl _) (fun k hk => by simp [Value.ownBlock] at hk); obtain ⟨A5, c5, hv5⟩ := own5'.form; subst hv5; have y3 : w5.cell? ⟨w.heap.size, 3, none⟩ = some (.slice Ao no co) := cell_of_row _ _ 3 _ 34 (0, 0) ((hb5.block _ (by omega)).trans HGr.out); have Hb5 := Lib.hid hb5; have Hown5 := Lib.hid own5'; have H3k := Lib.hid (Ho.out.keep (w' := w5) (Z' := fun k => k < w.heap.size) (fun k hk => (hb5.block k (by have := HZ.out k hk; omega)).trans (Hbw.out.block k (HZ.out k hk))) (fun k hk => HZ.out k hk)); have zw5 := hb5.size; clear own5 gr5 own5' hb5)
        | (at_builtin; refine wpList_append_l w5 rfl (.tmp 53) (.tmp 55) 31 rfl repVl 81 i81 _ 48 Try.underlying31 HI81.out.1 HI81.out.2.1 HI81.out.2.2.1 HI81.out.2.2.2 rfl (by decide) wr.heap.size (fun k => k < w.heap.size) (.slice A5 g.ins.length c5) g.ins rfl Hown5.out (fun k => k < w.heap.size) Ao no co g.outs rfl H3k.out (fun k hk => ⟨by omega, fun e => by have := (Hown5.out.lt k e).1; omega⟩) (fun k hk => ⟨by omega, fun e => by have := (Hown5.out.lt k e).1; omega⟩) (by rw [Li.out, Lo.out]; omega) (by rw [Li.out, Lo.out]; unfold maxLen; omega) (by omega) ?_; intro v6 w6 own6 gr6 _; have own6' : OwnL repVl 81 w6 wr.heap.size (fun k => k < w.heap.size) v6 (g.ins ++ g.outs) := own6 _ (fun _ h => h) (fun _ h => h); have hb6 : Below wr.heap.size wr w6 := Hb5.out.grown gr6 (by omega) (fun k hk => (Hown5.out.lt k hk).1); obtain ⟨A6, c6, hv6⟩ := own6'.form; obtain ⟨nv, hnv⟩ : ∃ nv, (g.ins ++ g.outs).length = nv := ⟨_, rfl⟩; rw [hnv] at hv6; subst hv6; have Hnv0 := Lib.hid hnv; have Hb6 := Lib.hid hb6; have zw6 := hb6.size; have HS6 := Lib.hid (own6'.slcAll hnv.symm (by decide) (fun k hk => by omega)); clear own6 gr6 own6' hb6 hnv))
      have Hwb := Lib.hid (Hbw.out.trans (Hb6.out.mono Hbw.out.size))
      have HG6 := Lib.hid ((Hb6.out.block w.heap.size (by omega)).trans HGr.out)
      have snv : nv ≤ 33554432 := by have := Hnv0.out; rw [List.length_append, Li.out, Lo.out] at this; omega
      obtain ⟨vs, hvs⟩ : ∃ vs, g.ins ++ g.outs = vs := ⟨_, rfl⟩
      rw [hvs] at HS6 Hnv0
      have Hvs := Lib.hid hvs
      have Hnv := Lib.hid Hnv0.out
      clear hvs Hnv0 y2 y1
      go_loopw [6, 7, 8] (fun i u7 u8 wx => ∃ q : Nat, q ≤ nv ∧ i = .int .i64 q ∧ (vs.take q).all valT = true ∧ Below w6.heap.size w6 wx) (fun i _ _ _ => nv - (intOf i).toNat)
      case atStart => exact ⟨0, by omega, rfl, by simp, Below.refl _ _⟩
      case round =>
        obtain ⟨q, hq, rfl, hall, hbx⟩ := hrel
        have HbX := Lib.hid hbx
        have zx := hbx.size
        have Hbw := Lib.hid (Hwb.out.trans (hbx.mono Hwb.out.size))
        have Hallq := Lib.hid hall
        clear hbx hall
        by_cases hlt2 : q < nv
        · obtain ⟨bd, od, aa, cs, hA, hbZ, hs, hR, hc⟩ := HS6.out.get hlt2
          obtain ⟨d, rfl, h3⟩ := hR
          obtain ⟨A1, n1, c1, rfl, h3⟩ := h3
          have x0 : wr.cell? ⟨bd, od + q * 3, none⟩ = some (.string aa.name) := (HbX.out.cell (p := ⟨bd, od + q * 3, none⟩) (by exact hbZ)).trans (hc 0 (by decide))
          have x1 : wr.cell? ⟨bd, od + q * 3 + 1, none⟩ = some (.int .i64 aa.typ) := (HbX.out.cell (p := ⟨bd, od + q * 3 + 1, none⟩) (by exact hbZ)).trans (hc 1 (by decide))
          have x2 : wr.cell? ⟨bd, od + q * 3 + 2, none⟩ = some (.slice A1 n1 c1) := (HbX.out.cell (p := ⟨bd, od + q * 3 + 2, none⟩) (by exact hbZ)).trans (hc 2 (by decide))
          have Hs := Lib.hid hs
          have hcx : CountIs aa.dims (if errC aa.dims = 0 then prod aa.dims else 0) (errC aa.dims) := ⟨rfl, rfl⟩
          generalize (if errC aa.dims = 0 then prod aa.dims else 0) = xx at hcx
          have HCt := Lib.hid (rcount_any wr w6.heap.size A1 n1 c1 aa.dims ((slc_ints h3 (fun k hk => hk)).below HbX.out (Nat.le_refl _)) xx _ hcx)
          have HTy := Lib.hid (rtyped_any aa.typ)
          have Hno := Lib.hid (show valT aa = false → toldB g = false from fun hv => by
            have h1 : vs.all valT = false := all_no Hs.out hv
            rw [← Hvs.out, List.all_append] at h1
            simp only [toldB, Bool.and_assoc]
            rw [show ∀ (a b c d e : Bool), (c && d) = false → (a && (b && (c && (d && e)))) = false from by decide]
            exact h1)
          subst hA
          clear hs hc h3 hcx
          go_wp2_with fail
          refine HCt.out.mono ?_
          rintro e w7 ⟨rfl, rfl⟩
          by_cases he : errC aa.dims = 0
          · have b_e : (errC aa.dims != 0) = false := by simpa using he
            cases hty : typd aa.typ with
            | false =>
              rw [hty] at HTy
              have Hr := Lib.hid (Hno.out (by simp [valT, hty]))
              clear he hty
              go_wp2_with fail
              refine (HTy.out _).mono ?_
              rintro e w7 ⟨rfl, rfl⟩
              go_wp2
              go_ret
              exact bolB_ret Hbw.out Hr.out.symm
            | true =>
              rw [hty] at HTy
              by_cases hnm : aa.name.size ≤ 100
              · have Hm := Lib.hid (all_more (f := valT) Hs.out Hallq.out (by simp [valT, hty, he, hnm]))
                clear he hty
                go_wp2_with fail
                refine (HTy.out _).mono ?_
                rintro e w7 ⟨rfl, rfl⟩
                go_wp2_with fail
                go_roundw
                case rel => exact ⟨q + 1, by omega, by go_num, Hm.out, HbX.out⟩
                case measure => simp [intOf]; omega
              · have Hr := Lib.hid (Hno.out (by simp [valT, hnm]))
                clear he hty
                go_wp2_with fail
                refine (HTy.out _).mono ?_
                rintro e w7 ⟨rfl, rfl⟩
                go_wp2
                go_ret
                exact bolB_ret Hbw.out Hr.out.symm
          · have b_e : (errC aa.dims != 0) = true := by simpa using he
            have Hr := Lib.hid (Hno.out (by simp [valT, he]))
            clear he
            go_wp2
            go_ret
            exact bolB_ret Hbw.out Hr.out.symm
        · obtain rfl : q = nv := by omega
          have Hval := Lib.hid (show (g.ins ++ g.outs).all valT = true by have := Hallq.out; rw [← Hnv.out, List.take_length] at this; rw [Hvs.out]; exact this)
          have HGr := Lib.hid ((HbX.out.block w.heap.size (by omega)).trans HG6.out)
          have y4 : wr.cell? ⟨w.heap.size, 4, none⟩ = some (.slice At_ nt ct) := cell_of_row _ _ 4 _ 34 (0, 0) HGr.out
          have zwr := Hbw.out.size
          go_wp2_with fail
          go_loopw [9] (fun i wx => ∃ q : Nat, q ≤ nt ∧ i = .int .i64 q ∧ (g.inits.take q).all initT = true ∧ Below w6.heap.size w6 wx) (fun i _ => nt - (intOf i).toNat)
          case atStart => exact ⟨0, by omega, rfl, by simp, HbX.out⟩
          case round =>
            obtain ⟨q, hq, rfl, hall, hbx⟩ := hrel
            have HbX := Lib.hid hbx
            have zx := hbx.size
            have Hbw := Lib.hid (Hwb.out.trans (hbx.mono Hwb.out.size))
            have Hallq := Lib.hid hall
            have HGr := Lib.hid ((hbx.block w.heap.size (by omega)).trans HG6.out)
            have y4 : wr.cell? ⟨w.heap.size, 4, none⟩ = some (.slice At_ nt ct) := cell_of_row _ _ 4 _ 34 (0, 0) HGr.out
            clear hbx hall
            by_cases hlt3 : q < nt
            · obtain ⟨bd, od, aa, cs, hA, hbZ, hs, hR, hc⟩ := Ht.out.get hlt3
              obtain ⟨d, e, rfl, h3, h4⟩ := hR
              obtain ⟨A1, n1, c1, rfl, h3⟩ := h3
              obtain ⟨A2, n2, c2, rfl, h4⟩ := h4
              have x0 : wr.cell? ⟨bd, od + q * 4, none⟩ = some (.string aa.name) := (Hbw.out.cell (p := ⟨bd, od + q * 4, none⟩) (by exact HZ.out _ hbZ)).trans (hc 0 (by decide))
              have x1 : wr.cell? ⟨bd, od + q * 4 + 1, none⟩ = some (.int .i64 aa.t.typ) := (Hbw.out.cell (p := ⟨bd, od + q * 4 + 1, none⟩) (by exact HZ.out _ hbZ)).trans (hc 1 (by decide))
              have x2 : wr.cell? ⟨bd, od + q * 4 + 2, none⟩ = some (.slice A1 n1 c1) := (Hbw.out.cell (p := ⟨bd, od + q * 4 + 2, none⟩) (by exact HZ.out _ hbZ)).trans (hc 2 (by decide))
              have x3 : wr.cell? ⟨bd, od + q * 4 + 3, none⟩ = some (.slice A2 n2 c2) := (Hbw.out.cell (p := ⟨bd, od + q * 4 + 3, none⟩) (by exact HZ.out _ hbZ)).trans (hc 3 (by decide))
              have Hs := Lib.hid hs
              have lbd := HZ.out _ hbZ
              have HCt := Lib.hid (rcheck_any aa.t wr w.heap.size A1 A2 n1 c1 n2 c2 ((slc_ints h3 HZ.out).below Hbw.out (Nat.le_refl _)) ((slc_ints h4 HZ.out).below Hbw.out (Nat.le_refl _)) Hbw.out.size)
              have Hno := Lib.hid (show initT aa = false → toldB g = false from fun hv => by
                have h1 : g.inits.all initT = false := all_no Hs.out hv
                simp only [toldB]; rw [h1, Bool.and_false])
              subst hA
              clear hs hc h3 h4
              go_wp2_with fail
              refine HCt.out.mono ?_
              rintro e w7 ⟨rfl, hb7⟩
              have z7 := hb7.size
              have k4 : w7.cell? ⟨w.heap.size, 4, none⟩ = some (.slice (some ⟨bd, od, none⟩) nt ct) := (hb7.cell (by dsimp only; omega)).trans y4
              have k0 : w7.cell? ⟨bd, od + q * 4, none⟩ = some (.string aa.name) := (hb7.cell (by dsimp only; omega)).trans x0
              have Hb7 := Lib.hid (HbX.out.trans (hb7.mono zx))
              have Hbf := Lib.hid (Hbw.out.trans (hb7.mono Hbw.out.size))
              clear hb7
              by_cases he : tchk aa.t = 0
              · have b_e : (tchk aa.t != 0) = false := by simpa using he
                by_cases hnm : aa.name.size ≤ 100
                · have Hm := Lib.hid (all_more (f := initT) Hs.out Hallq.out (by simp [initT, he, hnm]))
                  clear he
                  go_wp2_with fail
                  go_roundw
                  case rel => exact ⟨q + 1, by omega, by go_num, Hm.out, Hb7.out⟩
                  case measure => simp [intOf]; omega
                · have Hr := Lib.hid (Hno.out (by simp [initT, hnm]))
                  clear he
                  go_wp2
                  go_ret
                  exact bolB_ret Hbf.out Hr.out.symm
              · have b_e : (tchk aa.t != 0) = true := by simpa using he
                have Hr := Lib.hid (Hno.out (by simp [initT, he]))
                clear he
                go_wp2
                go_ret
                exact bolB_ret Hbf.out Hr.out.symm
            · obtain rfl : q = nt := by omega
              have Hr := Lib.hid (show toldB g = true by
                have h1 := Hallq.out
                rw [← Lt.out, List.take_length] at h1
                have h2 := Hval.out
                rw [List.all_append, Bool.and_eq_true] at h2
                simp only [toldB, Hfg.out, Hnod.out, h1, h2.1, h2.2, Bool.and_self])
              go_wp2
              go_ret
              exact bolB_ret Hbw.out Hr.out.symm
end Go.Proofs.Ytkcnpnnflbibiaa
