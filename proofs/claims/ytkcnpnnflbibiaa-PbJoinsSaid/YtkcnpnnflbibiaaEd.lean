/- The walks: a node written. -/
import Derived.Test.YtkcnpnnflbibiaaEc
import Derived.Test.YtkcnpnnflbibiaaDb
set_option linter.unusedVariables false
namespace Go.Proofs.Ytkcnpnnflbibiaa
open Go.RowKit

/-- Parts written one by one, each a field. -/
def mapE {α : Type} (g : α → Except Int ByteArray) (num : Int) : List α → Except Int (List Fd)
  | [] => .ok []
  | a :: l => match g a with
    | .error e => .error e
    | .ok b => match mapE g num l with
      | .error e => .error e
      | .ok m => .ok (⟨num, 2, 0, b⟩ :: m)
section
variable {α : Type} {g : α → Except Int ByteArray} {num : Int}
theorem mapE_app (l1 l2 : List α) {m : List Fd} (h : mapE g num l1 = .ok m) : mapE g num (l1 ++ l2) = (match mapE g num l2 with | .error e => .error e | .ok m2 => .ok (m ++ m2)) := by
  induction l1 generalizing m with
  | nil => cases h; simp only [List.nil_append]; cases mapE g num l2 <;> rfl
  | cons a l ih =>
    simp only [mapE] at h
    simp only [List.cons_append, mapE]
    cases hg : g a with
    | error e => rw [hg] at h; cases h
    | ok b =>
      rw [hg] at h
      simp only at h ⊢
      cases hl : mapE g num l with
      | error e => rw [hl] at h; cases h
      | ok m1 =>
        rw [hl] at h
        cases h
        rw [ih hl]
        cases mapE g num l2 <;> rfl
theorem mapE_take {l : List α} {k : Nat} {a : α} {m : List Fd} {b : ByteArray} (h : mapE g num (l.take k) = .ok m) (ha : l[k]? = some a) (hb : g a = .ok b) : mapE g num (l.take (k + 1)) = .ok (m ++ [⟨num, 2, 0, b⟩]) := by
  rw [List.take_add_one, ha]
  show mapE g num (l.take k ++ [a]) = _
  rw [mapE_app _ _ h]
  simp only [mapE, hb]
theorem mapE_bad {l : List α} {k : Nat} {a : α} {m : List Fd} {e : Int} (h : mapE g num (l.take k) = .ok m) (ha : l[k]? = some a) (hb : g a = .error e) : mapE g num l = .error e := by
  have h1 : l = l.take k ++ (a :: l.drop (k + 1)) := by
    have hlt : k < l.length := by
      rcases Nat.lt_or_ge k l.length with h | h
      · exact h
      · rw [List.getElem?_eq_none h] at ha; cases ha
    have h2 : l.drop k = a :: l.drop (k + 1) := by
      rw [List.drop_eq_getElem_cons hlt]
      rw [List.getElem?_eq_getElem hlt] at ha
      cases ha; rfl
    rw [← h2, List.take_append_drop]
  rw [h1, mapE_app _ _ h]
  simp only [mapE, hb]
theorem mapE_len : ∀ {l : List α} {m : List Fd}, mapE g num l = .ok m → m.length = l.length := by
  intro l
  induction l with
  | nil => intro m h; cases h; rfl
  | cons a l ih =>
    intro m h
    simp only [mapE] at h
    cases hg : g a with
    | error e => rw [hg] at h; cases h
    | ok b =>
      rw [hg] at h
      simp only at h
      cases hl : mapE g num l with
      | error e => rw [hl] at h; cases h
      | ok m1 => rw [hl] at h; cases h; simp [ih hl]
theorem mapE_ok (hg : ∀ a b, g a = .ok b → b.size ≤ 16777216) (h0 : 0 ≤ num) (h1 : num ≤ 1000) : ∀ {l : List α} {m : List Fd}, mapE g num l = .ok m → (∀ f ∈ m, FdOk f) ∧ bulk m ≤ 16777236 * l.length := by
  intro l
  induction l with
  | nil => intro m h; cases h; exact ⟨fun f hf => by simp at hf, by simp [bulk]⟩
  | cons a l ih =>
    intro m h
    simp only [mapE] at h
    cases hga : g a with
    | error e => rw [hga] at h; cases h
    | ok b =>
      rw [hga] at h
      simp only at h
      cases hl : mapE g num l with
      | error e => rw [hl] at h; cases h
      | ok m1 =>
        rw [hl] at h
        cases h
        obtain ⟨i1, i2⟩ := ih hl
        have hb := hg a b hga
        refine ⟨fun f hf => ?_, by simp only [bulk, List.length_cons]; omega⟩
        simp only [List.mem_cons] at hf
        rcases hf with rfl | hf
        · exact fdOk_t num b h0 h1 (by omega)
        · exact i1 f hf
end
theorem attrB_size (a : At) (b : ByteArray) (h : attrB a = .ok b) : b.size ≤ 16777216 := by
  unfold attrB at h
  split at h
  · cases h
  · exact (bytE_size h).1
def strFds (l : List ByteArray) : List Fd := l.map fun s => ⟨1, 2, 0, s⟩
theorem strFds_take (l : List ByteArray) (k : Nat) (s : ByteArray) (h : l[k]? = some s) : strFds (l.take k) ++ [⟨1, 2, 0, s⟩] = strFds (l.take (k + 1)) := by
  rw [List.take_add_one, h]; simp [strFds]
def nodeHead (n : Nd) : List Fd := ((strFds n.ins ++ [⟨2, 2, 0, n.out⟩]) ++ [⟨3, 2, 0, n.name⟩]) ++ [⟨4, 2, 0, n.op⟩]
def nodeB (n : Nd) : Except Int ByteArray :=
  match mapE attrB 5 n.attrs with
  | .error e => .error e
  | .ok m => bytE (nodeHead n ++ m)
/-- Sizes that a told node has. -/
structure NdOk (n : Nd) : Prop where
  op : n.op.size ≤ 100
  name : n.name.size ≤ 100
  out : n.out.size ≤ 100
  ins : n.ins.length ≤ 20
  each : ∀ s ∈ n.ins, s.size ≤ 100
  attrs : n.attrs.length ≤ 20
  every : ∀ a ∈ n.attrs, AtOk a
theorem node_fds_ok {n : Nd} (h : NdOk n) {m : List Fd} (hm : mapE attrB 5 n.attrs = .ok m) : (∀ f ∈ nodeHead n ++ m, FdOk f) ∧ bulk (nodeHead n ++ m) ≤ 4611686018427387904 ∧ (nodeHead n).length ≤ 100 := by
  obtain ⟨h1, h2⟩ := mapE_ok attrB_size (by omega) (by omega) hm
  have a1 := h.op
  have a2 := h.name
  have a3 := h.out
  have a4 := h.ins
  have a5 := h.attrs
  have hs : ∀ l : List ByteArray, (∀ s ∈ l, s.size ≤ 100) → bulk (strFds l) ≤ 120 * l.length := by
    intro l
    induction l with
    | nil => intro _; simp [strFds, bulk]
    | cons s l ih =>
      intro hl
      have i1 := ih fun s hs => hl s (List.mem_cons_of_mem _ hs)
      have i2 := hl s List.mem_cons_self
      simp only [strFds, List.map_cons, bulk, List.length_cons] at i1 ⊢
      omega
  have h3 := hs _ h.each
  refine ⟨fun f hf => ?_, by simp only [nodeHead, bulk_app, bulk]; omega, by simp [nodeHead, strFds]; omega⟩
  simp only [nodeHead, List.mem_append, List.mem_singleton] at hf
  rcases hf with (((hf | rfl) | rfl) | rfl) | hf
  · simp only [strFds, List.mem_map] at hf
    obtain ⟨s, hs, rfl⟩ := hf
    have := h.each s hs
    exact fdOk_t 1 s (by omega) (by omega) (by omega)
  · exact fdOk_t 2 _ (by omega) (by omega) (by omega)
  · exact fdOk_t 3 _ (by omega) (by omega) (by omega)
  · exact fdOk_t 4 _ (by omega) (by omega) (by omega)
  · exact h1 f hf
set_option maxRecDepth 100000 in
set_option maxHeartbeats 3200000 in
theorem wnode_any (x : Nd) (w : World) (Z : Nat → Prop) (A1 A2 : Option Addr) (n1 c1 n2 c2 : Nat) (hi : Slc repStr w Z A1 n1 x.ins) (ha : Slc repAt w Z A2 n2 x.attrs) (hZ : ∀ k, Z k → k < w.heap.size) (hok : NdOk x) :
    Calls Try.prog 34 #[.agg #[.string x.op, .string x.name, .slice A1 n1 c1, .string x.out, .slice A2 n2 c2]] w (WroteIs (nodeB x) w) := by
  have hb0 : Below w.heap.size w ((w.alloc (.cells #[.string x.op, .string x.name, .slice A1 n1 c1, .string x.out, .slice A2 n2 c2] 67)).alloc (.cells #[.slice none 0 0] 76)) := ((Below.refl _ _).alloc (Nat.le_refl _) _).alloc (by simp) _
  have hg0 := (Below.heap_alloc (w.alloc (.cells #[.string x.op, .string x.name, .slice A1 n1 c1, .string x.out, .slice A2 n2 c2] 67)) (.cells #[.slice none 0 0] 76) w.heap.size (by simp)).trans (heap_alloc_new w (.cells #[.string x.op, .string x.name, .slice A1 n1 c1, .string x.out, .slice A2 n2 c2] 67))
  have hm0 := heap_second w (.cells #[.string x.op, .string x.name, .slice A1 n1 c1, .string x.out, .slice A2 n2 c2] 67) (.cells #[.slice none 0 0] 76) (w.heap.size + 1) rfl
  have hz0 : ((w.alloc (.cells #[.string x.op, .string x.name, .slice A1 n1 c1, .string x.out, .slice A2 n2 c2] 67)).alloc (.cells #[.slice none 0 0] 76)).heap.size = w.heap.size + 2 := by simp
  have HB0 := Lib.hid hb0
  have HG0 := Lib.hid hg0
  have HM0 := Lib.hid (Msg.start hm0)
  have HOK := Lib.hid hok
  have Hi := Lib.hid hi
  have Ha := Lib.hid ha
  have HZ := Lib.hid hZ
  have hn1 : (n1 : Int) ≤ 9223372036854775807 := by have := hi.small; unfold maxLen at this; omega
  have hn2 : (n2 : Int) ≤ 9223372036854775807 := by have := ha.small; unfold maxLen at this; omega
  have hl1 := hi.len
  have hl2 := ha.len
  have h20 : n1 ≤ 20 := by rw [← hl1]; exact hok.ins
  have h21 : n2 ≤ 20 := by rw [← hl2]; exact hok.attrs
  have Hl1 := Lib.hid hl1
  have Hl2 := Lib.hid hl2
  have k2 : ((w.alloc (.cells #[.string x.op, .string x.name, .slice A1 n1 c1, .string x.out, .slice A2 n2 c2] 67)).alloc (.cells #[.slice none 0 0] 76)).cell? ⟨w.heap.size, 2, none⟩ = some (.slice A1 n1 c1) := cell_of_row _ _ 2 _ 67 (0, 0) hg0
  clear hb0 hg0 hm0 hok hi ha hZ hl1 hl2
  go_enter Try.func34, Try.ntmps34
  go_wp2_with fail
  generalize ((w.alloc (.cells #[.string x.op, .string x.name, .slice A1 n1 c1, .string x.out, .slice A2 n2 c2] 67)).alloc (.cells #[.slice none 0 0] 76)) = w0 at HM0 HB0 HG0 hz0 k2 ⊢
  go_loopw [5, 13] (fun u5 i wr => ∃ k : Nat, k ≤ n1 ∧ i = .int .i64 k ∧ Msg w0 (w.heap.size + 1) wr (strFds (x.ins.take k))) (fun _ i _ => n1 - (intOf i).toNat)
  case atStart => exact ⟨0, by omega, rfl, HM0.out⟩
  case round =>
    obtain ⟨k, hk, rfl, hm⟩ := hrel
    have HM := Lib.hid hm
    have Hbw := Lib.hid (hm.belowOf HB0.out (by omega) (by omega))
    have zr := hm.only.size
    have hgr := (hm.cell (k := w.heap.size) (by omega) (by omega)).trans HG0.out
    have HGr := Lib.hid hgr
    clear hm
    by_cases hlt : k < n1
    · obtain ⟨bd, od, s, cs, hA, hbZ, hs, hR, hc⟩ := Hi.out.get hlt
      have hcs : cs = [.string s] := hR
      subst hcs
      have hc0 := (Hbw.out.cell (p := ⟨bd, od + k, none⟩) (by exact HZ.out _ hbZ)).trans (by simpa [repStr] using hc 0 (by decide))
      subst hA
      have hlen : (strFds (x.ins.take k)).length ≤ 16777216 := by simp [strFds]; omega
      have HT := Lib.hid (strFds_take x.ins k s hs)
      have HV := Lib.hid (mtext HM.out hlen 1 s)
      clear hgr hc hs hR hlen
      go_wp2_with fail
      refine HV.out.mono ?_
      rintro e w1 ⟨rfl, hm1⟩
      have HM1 := Lib.hid (HT.out ▸ hm1)
      clear hm1
      go_wp2
      go_roundw
      case rel => exact ⟨k + 1, by omega, by go_num, HM1.out⟩
      case measure => simp [intOf]; omega
    · obtain rfl : k = n1 := by omega
      have hall : strFds (x.ins.take k) = strFds x.ins := by rw [← Hl1.out, List.take_length]
      have HMa := Lib.hid (hall ▸ HM.out)
      have r3 : wr.cell? ⟨w.heap.size, 3, none⟩ = some (.string x.out) := cell_of_row _ _ 3 _ 67 (0, 0) hgr
      have hsl : (strFds x.ins).length ≤ 20 := by simp [strFds, Hl1.out]; omega
      have HV := Lib.hid (mtext HMa.out (by omega) 2 x.out)
      clear hall hgr k2
      go_wp2_with fail
      refine HV.out.mono ?_
      rintro e w1 ⟨rfl, hm1⟩
      have hg1 := (hm1.cell (k := w.heap.size) (by omega) (by omega)).trans HG0.out
      have r1 : w1.cell? ⟨w.heap.size, 1, none⟩ = some (.string x.name) := cell_of_row _ _ 1 _ 67 (0, 0) hg1
      have HV1 := Lib.hid (mtext hm1 (by simp; omega) 3 x.name)
      clear hm1 hg1
      go_wp2_with fail
      refine HV1.out.mono ?_
      rintro e w2 ⟨rfl, hm2⟩
      have hg2 := (hm2.cell (k := w.heap.size) (by omega) (by omega)).trans HG0.out
      have r0 : w2.cell? ⟨w.heap.size, 0, none⟩ = some (.string x.op) := cell_of_row _ _ 0 _ 67 (0, 0) hg2
      have HV2 := Lib.hid (mtext hm2 (by simp; omega) 4 x.op)
      clear hm2 hg2
      go_wp2_with fail
      refine HV2.out.mono ?_
      rintro e w3 ⟨rfl, hm3⟩
      have hg3 := (hm3.cell (k := w.heap.size) (by omega) (by omega)).trans HG0.out
      have r4 : w3.cell? ⟨w.heap.size, 4, none⟩ = some (.slice A2 n2 c2) := cell_of_row _ _ 4 _ 67 (0, 0) hg3
      have HM3 := Lib.hid (show Msg w0 (w.heap.size + 1) w3 (nodeHead x ++ []) by rw [List.append_nil]; exact hm3)
      clear hm3 hg3
      go_wp2_with fail
      go_loopw [7, 36] (fun u7 i wr => ∃ q : Nat, q ≤ n2 ∧ i = .int .i64 q ∧ ∃ m, mapE attrB 5 (x.attrs.take q) = .ok m ∧ Msg w0 (w.heap.size + 1) wr (nodeHead x ++ m)) (fun _ i _ => n2 - (intOf i).toNat)
      case atStart => exact ⟨0, by omega, rfl, [], rfl, HM3.out⟩
      case round =>
        obtain ⟨q, hq, rfl, m, hm, hmsg⟩ := hrel
        have Hm := Lib.hid hm
        have HM := Lib.hid hmsg
        have Hbw := Lib.hid (hmsg.belowOf HB0.out (by omega) (by omega))
        have hml := mapE_len hm
        have hhl : (nodeHead x).length ≤ 100 := by simp [nodeHead, strFds, Hl1.out]; omega
        simp only [List.length_take, Hl2.out] at hml
        clear hm hmsg
        by_cases hlt2 : q < n2
        · obtain ⟨bd, od, x2, cs, hA, hbZ, hs, hR, hc⟩ := Ha.out.get hlt2
          obtain ⟨d, e, g, rfl, h3, h4, h5⟩ := hR
          obtain ⟨Ad, nd, cd, rfl, h3⟩ := h3
          obtain ⟨Ae, ne, ce, rfl, h4⟩ := h4
          obtain ⟨Ag, ng, cg, rfl, h5⟩ := h5
          have hx2 := HOK.out.every x2 (List.mem_of_getElem? hs)
          have y0 : wr.cell? ⟨bd, od + q * 9, none⟩ = some (.string x2.name) := (Hbw.out.cell (p := ⟨bd, od + q * 9, none⟩) (by exact HZ.out _ hbZ)).trans (hc 0 (by decide))
          have y1 : wr.cell? ⟨bd, od + q * 9 + 1, none⟩ = some (.int .i64 x2.kind) := (Hbw.out.cell (p := ⟨bd, od + q * 9 + 1, none⟩) (by exact HZ.out _ hbZ)).trans (hc 1 (by decide))
          have y2 : wr.cell? ⟨bd, od + q * 9 + 2, none⟩ = some (.int .i64 x2.f) := (Hbw.out.cell (p := ⟨bd, od + q * 9 + 2, none⟩) (by exact HZ.out _ hbZ)).trans (hc 2 (by decide))
          have y3 : wr.cell? ⟨bd, od + q * 9 + 3, none⟩ = some (.int .i64 x2.i) := (Hbw.out.cell (p := ⟨bd, od + q * 9 + 3, none⟩) (by exact HZ.out _ hbZ)).trans (hc 3 (by decide))
          have y4 : wr.cell? ⟨bd, od + q * 9 + 4, none⟩ = some (.string x2.s) := (Hbw.out.cell (p := ⟨bd, od + q * 9 + 4, none⟩) (by exact HZ.out _ hbZ)).trans (hc 4 (by decide))
          have y5 : wr.cell? ⟨bd, od + q * 9 + 5, none⟩ = some (.int .i64 x2.t.typ) := (Hbw.out.cell (p := ⟨bd, od + q * 9 + 5, none⟩) (by exact HZ.out _ hbZ)).trans (hc 5 (by decide))
          have y6 : wr.cell? ⟨bd, od + q * 9 + 6, none⟩ = some (.slice Ad nd cd) := (Hbw.out.cell (p := ⟨bd, od + q * 9 + 6, none⟩) (by exact HZ.out _ hbZ)).trans (hc 6 (by decide))
          have y7 : wr.cell? ⟨bd, od + q * 9 + 7, none⟩ = some (.slice Ae ne ce) := (Hbw.out.cell (p := ⟨bd, od + q * 9 + 7, none⟩) (by exact HZ.out _ hbZ)).trans (hc 7 (by decide))
          have y8 : wr.cell? ⟨bd, od + q * 9 + 8, none⟩ = some (.slice Ag ng cg) := (Hbw.out.cell (p := ⟨bd, od + q * 9 + 8, none⟩) (by exact HZ.out _ hbZ)).trans (hc 8 (by decide))
          subst hA
          have hlen : (nodeHead x ++ m).length ≤ 16777216 := by rw [List.length_append]; omega
          have hbt : Below w.heap.size w (wr.alloc (.cells #[.string x2.name, .int .i64 x2.kind, .int .i64 x2.f, .int .i64 x2.i, .string x2.s, .int .i64 x2.t.typ, .slice Ad nd cd, .slice Ae ne ce, .slice Ag ng cg] 88)) := Hbw.out.alloc Hbw.out.size _
          have HWA := Lib.hid (wattr_any x2 (wr.alloc (.cells #[.string x2.name, .int .i64 x2.kind, .int .i64 x2.f, .int .i64 x2.i, .string x2.s, .int .i64 x2.t.typ, .slice Ad nd cd, .slice Ae ne ce, .slice Ag ng cg] 88)) w.heap.size Ad Ae Ag nd cd ne ce ng cg ((slc_ints h3 HZ.out).below hbt (Nat.le_refl _)) ((slc_ints h4 HZ.out).below hbt (Nat.le_refl _)) ((slc_ints h5 HZ.out).below hbt (Nat.le_refl _)) (by have := Hbw.out.size; simp; omega) hx2)
          have HMt := Lib.hid (HM.out.below ((Below.refl _ _).alloc (Nat.le_refl _) (.cells #[.string x2.name, .int .i64 x2.kind, .int .i64 x2.f, .int .i64 x2.i, .string x2.s, .int .i64 x2.t.typ, .slice Ad nd cd, .slice Ae ne ce, .slice Ag ng cg] 88)))
          have Hbt := Lib.hid hbt
          have Hs := Lib.hid hs
          clear hc hs h3 h4 h5 hx2 hbt
          go_wp2_with fail
          refine HWA.out.mono ?_
          rintro e w5 ⟨hb5, ⟨b, hb, rfl⟩ | ⟨err, hb, rfl⟩⟩
          · have HV5 := Lib.hid (mtext (HMt.out.below hb5) hlen 5 b)
            have Hmb := Lib.hid (mapE_take Hm.out Hs.out hb)
            clear hb5 hb hlen
            go_wp2_with fail
            refine HV5.out.mono ?_
            rintro e w6 ⟨rfl, hm6⟩
            have HM6 := Lib.hid (show Msg w0 (w.heap.size + 1) w6 (nodeHead x ++ (m ++ [⟨5, 2, 0, b⟩])) by rw [← List.append_assoc]; exact hm6)
            clear hm6
            go_wp2
            go_roundw
            case rel => exact ⟨q + 1, by omega, by go_num, _, Hmb.out, HM6.out⟩
            case measure => simp [intOf]; omega
          · exact ⟨rfl, wrote_no (Hbt.out.trans (hb5.mono Hbt.out.size)) (by unfold nodeB; rw [mapE_bad Hm.out Hs.out hb])⟩
        · obtain rfl : q = n2 := by omega
          have hall2 : mapE attrB 5 x.attrs = .ok m := by have := Hm.out; rwa [← Hl2.out, List.take_length] at this
          obtain ⟨o1, o2, _⟩ := node_fds_ok HOK.out hall2
          have HW := Lib.hid (wrote HM.out o1 o2)
          have Hpl := Lib.hid (show nodeB x = bytE (nodeHead x ++ m) by unfold nodeB; rw [hall2])
          clear hall2 o1 o2
          go_wp2_with fail
          refine HW.out.mono ?_
          rintro e w7 ⟨hb7, ⟨b, hb, rfl⟩ | ⟨err, hb, rfl⟩⟩
          · have Hb := Lib.hid (Hpl.out.trans hb)
            have Hb7 := Lib.hid (Hbw.out.trans (hb7.mono Hbw.out.size))
            clear hb hb7
            go_wp2
            go_ret
            exact wrote_yes Hb7.out Hb.out
          · exact ⟨rfl, wrote_no (Hbw.out.trans (hb7.mono Hbw.out.size)) (Hpl.out.trans hb)⟩
end Go.Proofs.Ytkcnpnnflbibiaa
