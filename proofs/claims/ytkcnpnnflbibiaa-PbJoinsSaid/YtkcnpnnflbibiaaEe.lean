/- The walks: a value written. -/
import Derived.Test.YtkcnpnnflbibiaaEd
set_option linter.unusedVariables false
namespace Go.Proofs.Ytkcnpnnflbibiaa
open Go.RowKit

/-- A message that is read alone. -/
def MsgR (w : World) (g : Nat) (l : List Fd) : Prop := ∃ v B, w.heap[g]? = some (.cells #[v] 76 (0, 0)) ∧ OwnF w B v l
theorem Msg.reads {w0 w : World} {g : Nat} {l : List Fd} (h : Msg w0 g w l) : MsgR w g l := by
  obtain ⟨v, h1, h2⟩ := h.at_
  exact ⟨v, _, h1, h2⟩
theorem MsgR.below {w w' : World} {g : Nat} {l : List Fd} (h : MsgR w g l) (hb : Below w.heap.size w w') : MsgR w' g l := by
  obtain ⟨v, B, h1, h2⟩ := h
  exact ⟨v, B, (hb.block g (Array.getElem?_eq_some_iff.1 h1).1).trans h1, h2.below hb⟩
theorem MsgR.over {w w' : World} {g g' : Nat} {l : List Fd} (h : MsgR w g l) (ho : Only g' w w') (hne : g ≠ g') (hc : ∃ v, w.heap[g']? = some (.cells #[v] 76 (0, 0))) : MsgR w' g l := by
  obtain ⟨v, B, h1, h2⟩ := h
  obtain ⟨u, hu⟩ := hc
  refine ⟨v, B, (ho.block g (Array.getElem?_eq_some_iff.1 h1).1 hne).trans h1, ⟨h2.1.1, ?_⟩, h2.2⟩
  rcases h2.1.2 with h4 | ⟨b, cap, cur, e1, hB, hb, r⟩
  · exact .inl h4
  · refine .inr ⟨b, cap, cur, e1, hB, ?_, r⟩
    have hbl : b < w.heap.size := (Array.getElem?_eq_some_iff.1 hb).1
    have hne : b ≠ g' := by
      intro e
      subst e
      rw [hu] at hb
      simp at hb
    exact (ho.block b hbl hne).trans hb
theorem wroteR {w : World} {g : Nat} {l : List Fd} (h : MsgR w g l) (hok : ∀ f ∈ l, FdOk f) (hsz : bulk l ≤ 4611686018427387904) : Calls Try.prog 38 #[.pointer (some ⟨g, 0, none⟩)] w (WroteIs (bytE l) w) := by
  obtain ⟨v, B, h1, h2⟩ := h
  exact (msg_bytes g v l B w h1 h2 hok (Nat.le_trans (text_le l) hsz)).mono fun _ _ => bytIs_wrote
def dimB (d : Int) : Except Int ByteArray := bytE [⟨1, 0, IntKind.u64.wrap d, ⟨#[]⟩⟩]
theorem dimB_size (d : Int) (b : ByteArray) (h : dimB d = .ok b) : b.size ≤ 16777216 := (bytE_size h).1
/-- A value's bytes, its dimensions' bytes given. -/
def valB1 (x : Vl) (d : ByteArray) : Except Int ByteArray :=
  match bytE [⟨1, 0, IntKind.u64.wrap x.typ, ⟨#[]⟩⟩, ⟨2, 2, 0, d⟩] with
  | .error e => .error e
  | .ok t => match bytE [⟨1, 2, 0, t⟩] with
    | .error e => .error e
    | .ok u => bytE [⟨1, 2, 0, x.name⟩, ⟨2, 2, 0, u⟩]
def valueB (x : Vl) : Except Int ByteArray :=
  match mapE dimB 1 x.dims with
  | .error e => .error e
  | .ok m => match bytE m with
    | .error e => .error e
    | .ok d => valB1 x d
/-- Sizes that a told value has. -/
structure VlOk (x : Vl) : Prop where
  name : x.name.size ≤ 100
  dims : x.dims.length ≤ 6
theorem three_new (w : World) (a b c : Obj) : (((w.alloc a).alloc b).alloc c).heap[w.heap.size]? = some a ∧ (((w.alloc a).alloc b).alloc c).heap[w.heap.size + 1]? = some b ∧ (((w.alloc a).alloc b).alloc c).heap[w.heap.size + 1 + 1]? = some c := ⟨(three_blocks w a b c).1, (three_blocks w a b c).2.1, (three_blocks w a b c).2.2.1⟩
set_option maxRecDepth 100000 in
set_option maxHeartbeats 3200000 in
theorem wvalue_any (x : Vl) (w : World) (B : Nat) (A1 : Option Addr) (n1 c1 : Nat) (hi : Ints w B A1 n1 x.dims) (hB : B ≤ w.heap.size) (hok : VlOk x) :
    Calls Try.prog 36 #[.agg #[.string x.name, .int .i64 x.typ, .slice A1 n1 c1]] w (WroteIs (valueB x) w) := by
  have hb0 : Below w.heap.size w ((w.alloc (.cells #[.string x.name, .int .i64 x.typ, .slice A1 n1 c1] 81)).alloc (.cells #[.slice none 0 0] 76)) := ((Below.refl _ _).alloc (Nat.le_refl _) _).alloc (by simp) _
  have hg0 := (Below.heap_alloc (w.alloc (.cells #[.string x.name, .int .i64 x.typ, .slice A1 n1 c1] 81)) (.cells #[.slice none 0 0] 76) w.heap.size (by simp)).trans (heap_alloc_new w (.cells #[.string x.name, .int .i64 x.typ, .slice A1 n1 c1] 81))
  have hm0 := heap_second w (.cells #[.string x.name, .int .i64 x.typ, .slice A1 n1 c1] 81) (.cells #[.slice none 0 0] 76) (w.heap.size + 1) rfl
  have hz0 : ((w.alloc (.cells #[.string x.name, .int .i64 x.typ, .slice A1 n1 c1] 81)).alloc (.cells #[.slice none 0 0] 76)).heap.size = w.heap.size + 2 := by simp
  have HB0 := Lib.hid hb0
  have HG0 := Lib.hid hg0
  have HM0 := Lib.hid (Msg.start hm0)
  have HOK := Lib.hid hok
  have Hi := Lib.hid hi
  have hn1 := hi.int
  have hl1 := hi.len
  have h6 : n1 ≤ 6 := by rw [← hl1]; exact hok.dims
  have Hl1 := Lib.hid hl1
  have k2 : ((w.alloc (.cells #[.string x.name, .int .i64 x.typ, .slice A1 n1 c1] 81)).alloc (.cells #[.slice none 0 0] 76)).cell? ⟨w.heap.size, 2, none⟩ = some (.slice A1 n1 c1) := cell_of_row _ _ 2 _ 81 (0, 0) hg0
  clear hb0 hg0 hm0 hok hi hl1
  go_enter Try.func36, Try.ntmps36
  go_wp2_with fail
  generalize ((w.alloc (.cells #[.string x.name, .int .i64 x.typ, .slice A1 n1 c1] 81)).alloc (.cells #[.slice none 0 0] 76)) = w0 at HM0 HB0 HG0 hz0 k2 ⊢
  go_loopw [5, 6, 15] (fun u5 u6 i wr => ∃ k : Nat, k ≤ n1 ∧ i = .int .i64 k ∧ ∃ m, mapE dimB 1 (x.dims.take k) = .ok m ∧ Msg w0 (w.heap.size + 1) wr m) (fun _ _ i _ => n1 - (intOf i).toNat)
  case atStart => exact ⟨0, by omega, rfl, [], rfl, HM0.out⟩
  case round =>
    obtain ⟨k, hk, rfl, m, hmm, hm⟩ := hrel
    have Hmm := Lib.hid hmm
    have HM := Lib.hid hm
    have Hbw := Lib.hid (hm.belowOf HB0.out (by omega) (by omega))
    have zr := hm.only.size
    have hml := mapE_len hmm
    simp only [List.length_take, Hl1.out] at hml
    clear hm hmm
    by_cases hlt : k < n1
    · obtain ⟨bd, od, hA, hbB, hc⟩ := Hi.out.get hlt
      have hc := (Hbw.out.cell (p := ⟨bd, od + k, none⟩) (by exact Nat.lt_of_lt_of_le hbB hB)).trans hc
      have hx : x.dims[k]? = some (ix x.dims k) := ix_get? x.dims k (by rw [Hl1.out]; exact hlt)
      have Hx := Lib.hid hx
      subst hA
      have HV := Lib.hid (mvarint (Msg.begun wr) (by simp) 1 (ix x.dims k))
      clear hx
      go_wp2_with fail
      refine HV.out.mono ?_
      rintro e w1 ⟨rfl, hm1⟩
      have hb1 : Below wr.heap.size wr w1 := hm1.belowOf ((Below.refl _ _).alloc (Nat.le_refl _) _) (Nat.le_refl _) (by simp)
      have HMd := Lib.hid (HM.out.below hb1)
      have Hb1 := Lib.hid (Hbw.out.trans (hb1.mono Hbw.out.size))
      have HW := Lib.hid (wrote (show Msg _ wr.heap.size w1 [⟨1, 0, IntKind.u64.wrap (ix x.dims k), ⟨#[]⟩⟩] from hm1) (fun f hf => by
        simp only [List.mem_singleton] at hf
        subst hf
        exact fdOk_v 1 _ (by omega) (by omega)) (by simp only [bulk]; have h0 : (⟨#[]⟩ : ByteArray).size = 0 := rfl; omega))
      clear hm1 hb1
      go_wp2_with fail
      refine HW.out.mono ?_
      rintro e w2 ⟨hb2, ⟨b, hb, rfl⟩ | ⟨err, hb, rfl⟩⟩
      · have HV2 := Lib.hid (mtext (HMd.out.below hb2) (by omega) 1 b)
        have Hnm := Lib.hid (mapE_take (g := dimB) Hmm.out Hx.out hb)
        clear hb hb2
        go_wp2_with fail
        refine HV2.out.mono ?_
        rintro e w3 ⟨rfl, hm3⟩
        have HM3 := Lib.hid hm3
        clear hm3
        go_wp2
        go_roundw
        case rel => exact ⟨k + 1, by omega, by go_num, _, Hnm.out, HM3.out⟩
        case measure => simp [intOf]; omega
      · exact ⟨rfl, wrote_no (Hb1.out.trans (hb2.mono Hb1.out.size)) (by unfold valueB; rw [mapE_bad (g := dimB) Hmm.out Hx.out hb])⟩
    · obtain rfl : k = n1 := by omega
      have hall : mapE dimB 1 x.dims = .ok m := by have := Hmm.out; rwa [← Hl1.out, List.take_length] at this
      have hoks := mapE_ok dimB_size (by omega) (by omega) hall
      rw [Hl1.out] at hoks
      have Hoks := Lib.hid hoks
      have Hpl := Lib.hid (show valueB x = (match bytE m with | .error e => .error e | .ok d => valB1 x d) by unfold valueB; rw [hall])
      obtain ⟨t1, t2, t3⟩ := three_new wr (.cells #[.slice none 0 0] 76) (.cells #[.slice none 0 0] 76) (.cells #[.slice none 0 0] 76)
      have z4 : (((wr.alloc (.cells #[.slice none 0 0] 76)).alloc (.cells #[.slice none 0 0] 76)).alloc (.cells #[.slice none 0 0] 76)).heap.size = wr.heap.size + 3 := by simp
      have hbt : Below wr.heap.size wr (((wr.alloc (.cells #[.slice none 0 0] 76)).alloc (.cells #[.slice none 0 0] 76)).alloc (.cells #[.slice none 0 0] 76)) := (((Below.refl _ _).alloc (Nat.le_refl _) _).alloc (by simp) _).alloc (by simp; omega) _
      have hg4 := (hbt.block w.heap.size (by omega)).trans ((HM.out.cell (k := w.heap.size) (by omega) (by omega)).trans HG0.out)
      have c1_ : (((wr.alloc (.cells #[.slice none 0 0] 76)).alloc (.cells #[.slice none 0 0] 76)).alloc (.cells #[.slice none 0 0] 76)).cell? ⟨w.heap.size, 1, none⟩ = some (.int .i64 x.typ) := cell_of_row _ _ 1 _ 81 (0, 0) hg4
      have HM4 := Lib.hid (HM.out.below hbt)
      have Hb4 := Lib.hid (Hbw.out.trans (hbt.mono Hbw.out.size))
      have HT1 := Lib.hid t1
      have HT2 := Lib.hid t2
      have HT3 := Lib.hid t3
      have HG4 := Lib.hid hg4
      have HV := Lib.hid (mvarint (Msg.start t1) (by simp) 1 x.typ)
      clear hall hoks t1 t2 t3 hbt hg4 k2
      go_wp2_with fail
      generalize (((wr.alloc (.cells #[.slice none 0 0] 76)).alloc (.cells #[.slice none 0 0] 76)).alloc (.cells #[.slice none 0 0] 76)) = w4 at HM4 Hb4 HT1 HT2 HT3 HG4 z4 HV c1_ ⊢
      refine HV.out.mono ?_
      rintro e w5 ⟨rfl, hm5⟩
      have hm5 : Msg w4 wr.heap.size w5 [⟨1, 0, IntKind.u64.wrap x.typ, ⟨#[]⟩⟩] := hm5
      have z5 := hm5.only.size
      have HM5 := Lib.hid hm5
      have HMd := Lib.hid (HM4.out.over hm5 zr ⟨_, HT1.out⟩)
      have HT25 := Lib.hid ((hm5.cell (k := wr.heap.size + 1) (by omega) (by omega)).trans HT2.out)
      have HT35 := Lib.hid ((hm5.cell (k := wr.heap.size + 1 + 1) (by omega) (by omega)).trans HT3.out)
      have HG5 := Lib.hid ((hm5.cell (k := w.heap.size) (by omega) (by omega)).trans HG4.out)
      have Hb5 := Lib.hid (Hb4.out.trans (hm5.only.below (by omega) (by omega)))
      have HW := Lib.hid (wrote HMd.out Hoks.out.1 (by have := Hoks.out.2; omega))
      clear hm5 c1_
      go_wp2_with fail
      refine HW.out.mono ?_
      rintro e w6 ⟨hb6, ⟨d, hd, rfl⟩ | ⟨err, hd, rfl⟩⟩
      · have z6 := hb6.size
        have hds := (bytE_size hd).1
        have HM6 := Lib.hid (HM5.out.below hb6)
        have Hpl2 := Lib.hid (show valueB x = valB1 x d by rw [Hpl.out, hd])
        have HV6 := Lib.hid (mtext HM6.out (by simp) 2 d)
        clear hb6 hd
        go_wp2_with fail
        refine HV6.out.mono ?_
        rintro e w7 ⟨rfl, hm7⟩
        have hm7 : Msg w4 wr.heap.size w7 [⟨1, 0, IntKind.u64.wrap x.typ, ⟨#[]⟩⟩, ⟨2, 2, 0, d⟩] := hm7
        have z7 := hm7.only.size
        have HT27 := Lib.hid ((hm7.cell (k := wr.heap.size + 1) (by omega) (by omega)).trans HT2.out)
        have HT37 := Lib.hid ((hm7.cell (k := wr.heap.size + 1 + 1) (by omega) (by omega)).trans HT3.out)
        have HG7 := Lib.hid ((hm7.cell (k := w.heap.size) (by omega) (by omega)).trans HG4.out)
        have Hb7 := Lib.hid (Hb4.out.trans (hm7.only.below (by omega) (by omega)))
        have HW7 := Lib.hid (wrote hm7 (fun f hf => by
          simp only [List.mem_cons, List.not_mem_nil, or_false] at hf
          rcases hf with rfl | rfl
          · exact fdOk_v 1 _ (by omega) (by omega)
          · exact fdOk_t 2 _ (by omega) (by omega) (by omega)) (by simp only [bulk]; have h0 : (⟨#[]⟩ : ByteArray).size = 0 := rfl; omega))
        clear hm7
        go_wp2_with fail
        refine HW7.out.mono ?_
        rintro e w8 ⟨hb8, ⟨t, ht, rfl⟩ | ⟨err, ht, rfl⟩⟩
        · have z8 := hb8.size
          have hts := (bytE_size ht).1
          have HT28 := Lib.hid ((hb8.block (wr.heap.size + 1) (by omega)).trans HT27.out)
          have HT38 := Lib.hid ((hb8.block (wr.heap.size + 1 + 1) (by omega)).trans HT37.out)
          have HG8 := Lib.hid ((hb8.block w.heap.size (by omega)).trans HG7.out)
          have Hb8 := Lib.hid (Hb7.out.trans (hb8.mono Hb7.out.size))
          have HV8 := Lib.hid (mtext (Msg.start HT28.out) (by simp) 1 t)
          have Ht := Lib.hid ht
          clear hb8 ht
          go_wp2_with fail
          refine HV8.out.mono ?_
          rintro e w9 ⟨rfl, hm9⟩
          have hm9 : Msg w8 (wr.heap.size + 1) w9 [⟨1, 2, 0, t⟩] := hm9
          have z9 := hm9.only.size
          have HT39 := Lib.hid ((hm9.cell (k := wr.heap.size + 1 + 1) (by omega) (by omega)).trans HT38.out)
          have hg9 := ((hm9.cell (k := w.heap.size) (by omega) (by omega)).trans HG8.out)
          have HG9 := Lib.hid hg9
          have Hb9 := Lib.hid (Hb8.out.trans (hm9.only.below (by omega) (by omega)))
          have HR9 := Lib.hid hm9.reads
          have c0 : w9.cell? ⟨w.heap.size, 0, none⟩ = some (.string x.name) := cell_of_row _ _ 0 _ 81 (0, 0) hg9
          have HV9 := Lib.hid (mtext (Msg.start HT39.out) (by simp) 1 x.name)
          clear hm9 hg9
          go_wp2_with fail
          refine HV9.out.mono ?_
          rintro e w10 ⟨rfl, hm10⟩
          have hm10 : Msg w9 (wr.heap.size + 1 + 1) w10 [⟨1, 2, 0, x.name⟩] := hm10
          have z10 := hm10.only.size
          have HM10 := Lib.hid hm10
          have Hb10 := Lib.hid (Hb9.out.trans (hm10.only.below (by omega) (by omega)))
          have HW10 := Lib.hid (wroteR (HR9.out.over hm10.only (by omega) ⟨_, HT39.out⟩) (fun f hf => by
            simp only [List.mem_singleton] at hf
            subst hf
            exact fdOk_t 1 _ (by omega) (by omega) (by omega)) (by simp only [bulk]; omega))
          clear hm10 c0
          go_wp2_with fail
          refine HW10.out.mono ?_
          rintro e w11 ⟨hb11, ⟨u, hu, rfl⟩ | ⟨err, hu, rfl⟩⟩
          · have hus := (bytE_size hu).1
            have HV11 := Lib.hid (mtext (HM10.out.below hb11) (by simp) 2 u)
            have Hpl3 := Lib.hid (show valueB x = bytE [⟨1, 2, 0, x.name⟩, ⟨2, 2, 0, u⟩] by rw [Hpl2.out]; unfold valB1; rw [Ht.out]; simp only []; rw [hu])
            clear hb11 hu
            go_wp2_with fail
            refine HV11.out.mono ?_
            rintro e w12 ⟨rfl, hm12⟩
            have hm12 : Msg w9 (wr.heap.size + 1 + 1) w12 [⟨1, 2, 0, x.name⟩, ⟨2, 2, 0, u⟩] := hm12
            have Hb12 := Lib.hid (Hb9.out.trans (hm12.only.below (by omega) (by omega)))
            have hnm := HOK.out.name
            have HW12 := Lib.hid (wrote hm12 (fun f hf => by
              simp only [List.mem_cons, List.not_mem_nil, or_false] at hf
              rcases hf with rfl | rfl
              · exact fdOk_t 1 _ (by omega) (by omega) (by omega)
              · exact fdOk_t 2 _ (by omega) (by omega) (by omega)) (by simp only [bulk]; omega))
            clear hm12
            go_wp2_with fail
            refine HW12.out.mono ?_
            rintro e w13 ⟨hb13, ⟨b, hb, rfl⟩ | ⟨err, hb, rfl⟩⟩
            · have Hb := Lib.hid (Hpl3.out.trans hb)
              have Hb13 := Lib.hid (Hb12.out.trans (hb13.mono Hb12.out.size))
              clear hb hb13
              go_wp2
              go_ret
              exact wrote_yes Hb13.out Hb.out
            · exact ⟨rfl, wrote_no (Hb12.out.trans (hb13.mono Hb12.out.size)) (Hpl3.out.trans hb)⟩
          · exact ⟨rfl, wrote_no (Hb10.out.trans (hb11.mono Hb10.out.size)) (by rw [Hpl2.out]; unfold valB1; rw [Ht.out]; simp only []; rw [hu])⟩
        · exact ⟨rfl, wrote_no (Hb7.out.trans (hb8.mono Hb7.out.size)) (by rw [Hpl2.out]; unfold valB1; rw [ht])⟩
      · exact ⟨rfl, wrote_no (Hb5.out.trans (hb6.mono Hb5.out.size)) (by rw [Hpl.out, hd])⟩
end Go.Proofs.Ytkcnpnnflbibiaa
