/- The walks: an attribute written. -/
import Derived.Test.YtkcnpnnflbibiaaZp
import Derived.Test.YtkcnpnnflbibiaaCb
import Derived.Deep.RegionLaw
import Derived.BigRegion
set_option linter.unusedVariables false
namespace Go.Proofs.Ytkcnpnnflbibiaa
open Go.RowKit

theorem Msg.push {w0 w w2 : World} {g : Nat} {l m : List Fd} {v v' : Value} (h : Msg w0 g w l) (ho : OwnF w w0.heap.size v l) (hg : w.grownBy w2 v.ownBlock) (ho2 : OwnF w2 w0.heap.size v' m) (hc : w2.heap[g]? = some (.cells #[v] 76 (0, 0))) : Msg w0 g (w2.setCell ⟨g, 0, none⟩ v') m :=
  ⟨h.lt, (only_grown h.only hg fun k hk => (World.ownsRow.lt ho.1 k hk).1).set_ _ _, v', one_set hc v', ho2.set_far h.lt _⟩
def intFds (l : List Int) : List Fd := l.map fun x => ⟨8, 0, IntKind.u64.wrap x, ⟨#[]⟩⟩
theorem intFds_take (l : List Int) (k : Nat) (h : k < l.length) : intFds (l.take k) ++ [⟨8, 0, IntKind.u64.wrap (ix l k), ⟨#[]⟩⟩] = intFds (l.take (k + 1)) := by
  rw [take_ix l k h]; simp [intFds]
/-- What stands between an attribute's name and its kind. -/
def attrMid (a : At) : Except Int (List Fd) :=
  if a.kind = 1 then .ok [⟨2, 5, IntKind.u64.wrap a.f, ⟨#[]⟩⟩]
  else if a.kind = 2 then .ok [⟨3, 0, IntKind.u64.wrap a.i, ⟨#[]⟩⟩]
  else if a.kind = 3 then .ok [⟨4, 2, 0, a.s⟩]
  else if a.kind = 4 then (match bytE (tenFds ⟨#[]⟩ a.t) with | .error e => .error e | .ok b => .ok [⟨5, 2, 0, b⟩])
  else if a.kind = 7 then .ok (intFds a.ints)
  else .ok []
def attrB (a : At) : Except Int ByteArray :=
  match attrMid a with
  | .error e => .error e
  | .ok l => bytE ((⟨1, 2, 0, a.name⟩ :: l) ++ [⟨20, 0, IntKind.u64.wrap a.kind, ⟨#[]⟩⟩])
/-- Sizes that a told attribute has. -/
structure AtOk (a : At) : Prop where
  name : a.name.size ≤ 100
  s : a.s.size ≤ 100
  ints : a.ints.length ≤ 20
  dims : a.t.dims.length ≤ 6
  data : a.t.data.length ≤ 65536
theorem mid_ok {a : At} (h : AtOk a) {l : List Fd} (hl : attrMid a = .ok l) : (∀ f ∈ l, FdOk f) ∧ bulk l ≤ 20000000 ∧ l.length ≤ 20 := by
  have h0 : (⟨#[]⟩ : ByteArray).size = 0 := rfl
  unfold attrMid at hl
  split at hl
  · cases hl
    refine ⟨fun f hf => ?_, by simp only [bulk, h0]; omega, by simp⟩
    simp only [List.mem_singleton] at hf
    subst hf
    exact ⟨by dsimp only; omega, by dsimp only; omega, by dsimp only; omega, by dsimp only; omega, (u64w _).1, (u64w _).2, by exact Nat.zero_le _⟩
  split at hl
  · cases hl
    refine ⟨fun f hf => ?_, by simp only [bulk, h0]; omega, by simp⟩
    simp only [List.mem_singleton] at hf
    subst hf
    exact fdOk_v 3 _ (by omega) (by omega)
  split at hl
  · cases hl
    have := h.s
    refine ⟨fun f hf => ?_, by simp only [bulk]; omega, by simp⟩
    simp only [List.mem_singleton] at hf
    subst hf
    exact fdOk_t 4 _ (by omega) (by omega) (by omega)
  split at hl
  · split at hl
    · cases hl
    · next b hb =>
      cases hl
      have := (bytE_size hb).1
      refine ⟨fun f hf => ?_, by simp only [bulk]; omega, by simp⟩
      simp only [List.mem_singleton] at hf
      subst hf
      exact fdOk_t 5 _ (by omega) (by omega) (by omega)
  split at hl
  · cases hl
    have hi := h.ints
    refine ⟨fun f hf => ?_, ?_, by simp [intFds]; omega⟩
    · simp only [intFds, List.mem_map] at hf
      obtain ⟨d, _, rfl⟩ := hf
      exact fdOk_v 8 d (by omega) (by omega)
    · have : bulk (intFds a.ints) = 20 * a.ints.length := by
        generalize a.ints = l
        induction l with
        | nil => rfl
        | cons x l ih =>
          simp only [intFds, List.map_cons, bulk, List.length_cons] at ih ⊢
          omega
      omega
  · cases hl
    exact ⟨fun f hf => by simp at hf, by simp [bulk], by simp⟩
theorem attr_fds_ok {a : At} (h : AtOk a) {l : List Fd} (hl : attrMid a = .ok l) : (∀ f ∈ (⟨1, 2, 0, a.name⟩ :: l) ++ [⟨20, 0, IntKind.u64.wrap a.kind, ⟨#[]⟩⟩], FdOk f) ∧ bulk ((⟨1, 2, 0, a.name⟩ :: l) ++ [⟨20, 0, IntKind.u64.wrap a.kind, ⟨#[]⟩⟩]) ≤ 4611686018427387904 := by
  obtain ⟨h1, h2, _⟩ := mid_ok h hl
  have hn := h.name
  have h0 : (⟨#[]⟩ : ByteArray).size = 0 := rfl
  refine ⟨fun f hf => ?_, by simp only [bulk_app, bulk, h0]; omega⟩
  simp only [List.mem_append, List.mem_cons] at hf
  rcases hf with (rfl | hf) | hf
  · exact fdOk_t 1 _ (by omega) (by omega) (by omega)
  · exact h1 f hf
  · rcases hf with rfl | hf
    · exact fdOk_v 20 _ (by omega) (by omega)
    · simp at hf
set_option maxRecDepth 100000 in
set_option maxHeartbeats 3200000 in
theorem wattr_any (a : At) (w : World) (B : Nat) (A1 A2 A3 : Option Addr) (n1 c1 n2 c2 n3 c3 : Nat) (hd : Ints w B A1 n1 a.t.dims) (he : Ints w B A2 n2 a.t.data) (hi : Ints w B A3 n3 a.ints) (hB : B ≤ w.heap.size) (hok : AtOk a) :
    Calls Try.prog 64 #[.agg #[.string a.name, .int .i64 a.kind, .int .i64 a.f, .int .i64 a.i, .string a.s, .int .i64 a.t.typ, .slice A1 n1 c1, .slice A2 n2 c2, .slice A3 n3 c3]] w (WroteIs (attrB a) w) := by
  have hb0 : Below w.heap.size w ((w.alloc (.cells #[.string a.name, .int .i64 a.kind, .int .i64 a.f, .int .i64 a.i, .string a.s, .int .i64 a.t.typ, .slice A1 n1 c1, .slice A2 n2 c2, .slice A3 n3 c3] 88)).alloc (.cells #[.slice none 0 0] 76)) := ((Below.refl _ _).alloc (Nat.le_refl _) _).alloc (by simp) _
  have hg0 := (Below.heap_alloc (w.alloc (.cells #[.string a.name, .int .i64 a.kind, .int .i64 a.f, .int .i64 a.i, .string a.s, .int .i64 a.t.typ, .slice A1 n1 c1, .slice A2 n2 c2, .slice A3 n3 c3] 88)) (.cells #[.slice none 0 0] 76) w.heap.size (by simp)).trans (heap_alloc_new w (.cells #[.string a.name, .int .i64 a.kind, .int .i64 a.f, .int .i64 a.i, .string a.s, .int .i64 a.t.typ, .slice A1 n1 c1, .slice A2 n2 c2, .slice A3 n3 c3] 88))
  have hm0 := heap_second w (.cells #[.string a.name, .int .i64 a.kind, .int .i64 a.f, .int .i64 a.i, .string a.s, .int .i64 a.t.typ, .slice A1 n1 c1, .slice A2 n2 c2, .slice A3 n3 c3] 88) (.cells #[.slice none 0 0] 76) (w.heap.size + 1) rfl
  have hz0 : ((w.alloc (.cells #[.string a.name, .int .i64 a.kind, .int .i64 a.f, .int .i64 a.i, .string a.s, .int .i64 a.t.typ, .slice A1 n1 c1, .slice A2 n2 c2, .slice A3 n3 c3] 88)).alloc (.cells #[.slice none 0 0] 76)).heap.size = w.heap.size + 2 := by simp
  have HB0 := Lib.hid hb0
  have HG0 := Lib.hid hg0
  have HX := Lib.hid (mtext (Msg.start hm0) (by simp) 1 a.name)
  have HOK := Lib.hid hok
  have Hd := Lib.hid hd
  have He := Lib.hid he
  have Hi := Lib.hid hi
  have hn3 := hi.int
  have k0 : ((w.alloc (.cells #[.string a.name, .int .i64 a.kind, .int .i64 a.f, .int .i64 a.i, .string a.s, .int .i64 a.t.typ, .slice A1 n1 c1, .slice A2 n2 c2, .slice A3 n3 c3] 88)).alloc (.cells #[.slice none 0 0] 76)).cell? ⟨w.heap.size, 0, none⟩ = some (.string a.name) := cell_of_row _ _ 0 _ 88 (0, 0) hg0
  clear hb0 hg0 hm0 hok hd he hi
  go_enter Try.func64, Try.ntmps64
  go_wp2_with fail
  refine HX.out.mono ?_
  rintro e w1 ⟨rfl, hm1⟩
  generalize ((w.alloc (.cells #[.string a.name, .int .i64 a.kind, .int .i64 a.f, .int .i64 a.i, .string a.s, .int .i64 a.t.typ, .slice A1 n1 c1, .slice A2 n2 c2, .slice A3 n3 c3] 88)).alloc (.cells #[.slice none 0 0] 76)) = w0 at HX HB0 HG0 hz0 k0 hm1 ⊢
  have z1 := hm1.only.size
  have hg1 := (hm1.cell (k := w.heap.size) (by omega) (by omega)).trans HG0.out
  have HM1 := Lib.hid (show Msg w0 (w.heap.size + 1) w1 [⟨1, 2, 0, a.name⟩] from hm1)
  have HG1 := Lib.hid hg1
  have Hb1 := Lib.hid (hm1.belowOf HB0.out (by omega) (by omega))
  have r1 : w1.cell? ⟨w.heap.size, 1, none⟩ = some (.int .i64 a.kind) := cell_of_row _ _ 1 _ 88 (0, 0) hg1
  clear hm1 hg1 HX k0
  go_upto_block 0 with (fail)
  go_cut [] from 61 (fun wx => ∃ l, attrMid a = .ok l ∧ Msg w0 (w.heap.size + 1) wx ([⟨1, 2, 0, a.name⟩] ++ l))
  case first =>
    have HMv := HM1.out.at_
    obtain ⟨v, hv, hov⟩ := HMv
    obtain ⟨Av, cv, hvv⟩ := hov.form
    subst hvv
    have Hv := Lib.hid hv
    have Hov := Lib.hid hov
    clear hv hov
    by_cases k1 : a.kind = 1
    · have q1 : (a.kind == 1) = true := by simpa using k1
      have Hmid := Lib.hid (show attrMid a = .ok [⟨2, 5, IntKind.u64.wrap a.f, ⟨#[]⟩⟩] by simp [attrMid, k1])
      have r2 : w1.cell? ⟨w.heap.size, 2, none⟩ = some (.int .i64 a.f) := cell_of_row _ _ 2 _ 88 (0, 0) HG1.out
      have m0 : w1.cell? ⟨w.heap.size + 1, 0, none⟩ = some (.slice Av [Fd.mk 1 2 0 a.name].length cv) := cell_of_row _ _ 0 _ 76 (0, 0) Hv.out
      have mf : w1.frozen? ⟨w.heap.size + 1, 0, none⟩ = false := by simp [World.frozen?, Hv.out]
      have m1 : (w1.alloc (.cells #[.int .i64 2, .int .i64 5, .int .u64 (IntKind.u64.wrap a.f), .string ⟨#[]⟩] 24)).cell? ⟨w.heap.size + 1, 0, none⟩ = some (.slice Av [Fd.mk 1 2 0 a.name].length cv) := (World.cell?_alloc_lt w1 _ _ (by dsimp only; omega)).trans m0
      obtain ⟨i24, hi24, hz240, hz241, hz242⟩ := info_parts Try.info24
      have HI24 := Lib.hid (show _ ∧ _ ∧ _ ∧ _ from ⟨hi24, hz240, hz241, hz242⟩)
      clear k1 hi24 hz240 hz241 hz242
      go_wp2_with fail
      first | (go_region_law (first
        | (refine step_append_f1 ((w1.drewN 1).alloc (.cells #[.int .i64 2, .int .i64 5, .int .u64 (IntKind.u64.wrap a.f), .string ⟨#[]⟩] 24)) ⟨2, 5, IntKind.u64.wrap a.f, ⟨#[]⟩⟩ rfl (.tmp 20) (.tmp 25) 29 rfl i24 _ rfl Try.underlying29 HI24.out.1 HI24.out.2.1 HI24.out.2.2.1 HI24.out.2.2.2 w0.heap.size _ _ rfl ((Hov.out.drewN 1).alloc _) w1.heap.size rfl (heap_alloc_new _ _) (by simp) (by have := HM1.out.only.size; simp; omega) ?_; intro v' w2 ho2 hg2; obtain ⟨Aw, mw, cw, hvw⟩ : ∃ A m c, v' = .slice A m c := (by obtain ⟨A, c, e⟩ := ho2.form; exact ⟨A, _, c, e⟩); subst hvw; have hg3 := grown_trans (grown_below (below_drewN (Below.refl w1.heap.size w1) 1) _) (grown_trans (grown_alloc (w1.drewN 1) _ _) hg2 (fun k hk => .inl hk)) (fun k hk => .inl hk); have hv2 := (hg3.block (w.heap.size + 1) (by omega) (fun e => by have := (World.ownsRow.lt Hov.out.1 _ e.symm).1; have := HM1.out.lt; omega)).trans Hv.out; have q27 : w2.cell? ⟨w.heap.size + 1, 0, none⟩ = some (.slice Av [Fd.mk 1 2 0 a.name].length cv) := cell_of_row _ _ 0 _ 76 (0, 0) hv2; have qf7 : w2.frozen? ⟨w.heap.size + 1, 0, none⟩ = false := (by simp [World.frozen?, hv2]); have HM2 := Lib.hid (HM1.out.push Hov.out hg3 ho2 hv2); clear hv2 hg3 ho2 hg2))) | fail
      all_goals
        go_wp2_with fail
        go_meet
        exact ⟨_, Hmid.out, HM2.out⟩
    have q1 : (a.kind == 1) = false := by simpa using k1
    by_cases k2 : a.kind = 2
    · have q2 : (a.kind == 2) = true := by simpa using k2
      have Hmid := Lib.hid (show attrMid a = .ok [⟨3, 0, IntKind.u64.wrap a.i, ⟨#[]⟩⟩] by simp [attrMid, k2])
      have r2 : w1.cell? ⟨w.heap.size, 3, none⟩ = some (.int .i64 a.i) := cell_of_row _ _ _ _ 88 (0, 0) HG1.out
      have HX := Lib.hid (mvarint HM1.out (by simp) 3 a.i)
      clear k2 k1
      go_wp2_with fail
      refine HX.out.mono ?_
      rintro e w2 ⟨rfl, hm2⟩
      have HM2 := Lib.hid hm2
      clear hm2
      go_wp2_with fail
      go_meet
      exact ⟨_, Hmid.out, HM2.out⟩
    have q2 : (a.kind == 2) = false := by simpa using k2
    by_cases k3 : a.kind = 3
    · have q3 : (a.kind == 3) = true := by simpa using k3
      have Hmid := Lib.hid (show attrMid a = .ok [⟨4, 2, 0, a.s⟩] by simp [attrMid, k3])
      have r2 : w1.cell? ⟨w.heap.size, 4, none⟩ = some (.string a.s) := cell_of_row _ _ _ _ 88 (0, 0) HG1.out
      have HX := Lib.hid (mtext HM1.out (by simp) 4 a.s)
      clear k3 k1
      go_wp2_with fail
      refine HX.out.mono ?_
      rintro e w2 ⟨rfl, hm2⟩
      have HM2 := Lib.hid hm2
      clear hm2
      go_wp2_with fail
      go_meet
      exact ⟨_, Hmid.out, HM2.out⟩
    have q3 : (a.kind == 3) = false := by simpa using k3
    by_cases k4 : a.kind = 4
    · have q4 : (a.kind == 4) = true := by simpa using k4
      have r5 : w1.cell? ⟨w.heap.size, 5, none⟩ = some (.int .i64 a.t.typ) := cell_of_row _ _ 5 _ 88 (0, 0) HG1.out
      have r6 : w1.cell? ⟨w.heap.size, 6, none⟩ = some (.slice A1 n1 c1) := cell_of_row _ _ 6 _ 88 (0, 0) HG1.out
      have r7 : w1.cell? ⟨w.heap.size, 7, none⟩ = some (.slice A2 n2 c2) := cell_of_row _ _ 7 _ 88 (0, 0) HG1.out
      have Hk := Lib.hid k4
      have HT := Lib.hid (wtensor_any ⟨#[]⟩ a.t w1 w.heap.size A1 A2 n1 c1 n2 c2 (Hd.out.below (Hb1.out.mono hB) hB) (He.out.below (Hb1.out.mono hB) hB) (by omega) (by decide) HOK.out.dims HOK.out.data)
      clear k4 k1
      go_wp2_with fail
      refine HT.out.mono ?_
      rintro e w2 ⟨hb2, ⟨b, hb, rfl⟩ | ⟨err, hb, rfl⟩⟩
      · have Hmid := Lib.hid (show attrMid a = .ok [⟨5, 2, 0, b⟩] by simp [attrMid, Hk.out, hb])
        have HX := Lib.hid (mtext (HM1.out.below hb2) (by simp) 5 b)
        clear hb2 hb
        go_wp2_with fail
        refine HX.out.mono ?_
        rintro e w3 ⟨rfl, hm3⟩
        have HM3 := Lib.hid hm3
        clear hm3
        go_wp2_with fail
        go_meet
        exact ⟨_, Hmid.out, HM3.out⟩
      · exact ⟨rfl, wrote_no (Hb1.out.trans (hb2.mono Hb1.out.size)) (by unfold attrB; simp [attrMid, Hk.out, hb])⟩
    have q4 : (a.kind == 4) = false := by simpa using k4
    by_cases k7 : a.kind = 7
    · have q7 : (a.kind == 7) = true := by simpa using k7
      have r8 : w1.cell? ⟨w.heap.size, 8, none⟩ = some (.slice A3 n3 c3) := cell_of_row _ _ 8 _ 88 (0, 0) HG1.out
      have Hmid := Lib.hid (show attrMid a = .ok (intFds a.ints) by simp [attrMid, k7])
      have hln := Hi.out.len
      have Hln := Lib.hid hln
      have hi20 : n3 ≤ 20 := by rw [← hln]; exact HOK.out.ints
      clear k7 k1 hln
      go_wp2_with fail
      go_loopw [5, 53] (fun u5 i wr => ∃ k : Nat, k ≤ n3 ∧ i = .int .i64 k ∧ Msg w0 (w.heap.size + 1) wr ([⟨1, 2, 0, a.name⟩] ++ intFds (a.ints.take k))) (fun _ i _ => n3 - (intOf i).toNat)
      case atStart => exact ⟨0, by omega, rfl, HM1.out⟩
      case round =>
        obtain ⟨k, hk, rfl, hm⟩ := hrel
        have HM := Lib.hid hm
        have Hbw := Lib.hid (hm.belowOf HB0.out (by omega) (by omega))
        clear hm
        by_cases hlt : k < n3
        · obtain ⟨bd, od, hA, hbB, hc⟩ := Hi.out.get hlt
          have hc := (Hbw.out.cell (p := ⟨bd, od + k, none⟩) (by exact Nat.lt_of_lt_of_le hbB hB)).trans hc
          subst hA
          have hlen : ([Fd.mk 1 2 0 a.name] ++ intFds (a.ints.take k)).length ≤ 16777216 := by simp [intFds]; omega
          have HT := Lib.hid (intFds_take a.ints k (by rw [Hln.out]; exact hlt))
          have HV := Lib.hid (mvarint HM.out hlen 8 (ix a.ints k))
          clear hlen
          go_wp2_with fail
          refine HV.out.mono ?_
          rintro e w2 ⟨rfl, hm2⟩
          have HM2 := Lib.hid (show Msg w0 (w.heap.size + 1) w2 ([⟨1, 2, 0, a.name⟩] ++ intFds (a.ints.take (k + 1))) by rw [← HT.out, ← List.append_assoc]; exact hm2)
          clear hm2
          go_wp2
          go_roundw
          case rel => exact ⟨k + 1, by omega, by go_num, HM2.out⟩
          case measure => simp [intOf]; omega
        · obtain rfl : k = n3 := by omega
          have HMa := Lib.hid (show Msg w0 (w.heap.size + 1) wr ([⟨1, 2, 0, a.name⟩] ++ intFds a.ints) by
            have := HM.out
            rw [← Hln.out, List.take_length] at this
            exact this)
          go_wp2_with fail
          go_meet
          exact ⟨_, Hmid.out, HMa.out⟩
    have q7 : (a.kind == 7) = false := by simpa using k7
    have Hmid := Lib.hid (show attrMid a = .ok [] by simp [attrMid, k1, k2, k3, k4, k7])
    clear k1 k2 k3 k4 k7
    go_wp2_with fail
    go_meet
    exact ⟨_, Hmid.out, HM1.out⟩
  case rest =>
    obtain ⟨l, hl, hm⟩ := hcut
    have Hl := Lib.hid hl
    have Hfo := Lib.hid (attr_fds_ok HOK.out hl)
    have HM := Lib.hid hm
    have zc := hm.only.size
    have hgc := (hm.cell (k := w.heap.size) (by omega) (by omega)).trans HG0.out
    have s1 : wc.cell? ⟨w.heap.size, 1, none⟩ = some (.int .i64 a.kind) := cell_of_row _ _ 1 _ 88 (0, 0) hgc
    have hll := (mid_ok HOK.out hl).2.2
    have HV := Lib.hid (mvarint hm (by simp; omega) 20 a.kind)
    clear hl hm hgc
    go_wp2_with fail
    refine HV.out.mono ?_
    rintro e w6 ⟨rfl, hm6⟩
    have HZ := Lib.hid (wrote (show Msg w0 (w.heap.size + 1) w6 ((⟨1, 2, 0, a.name⟩ :: l) ++ [⟨20, 0, IntKind.u64.wrap a.kind, ⟨#[]⟩⟩]) from hm6) Hfo.out.1 Hfo.out.2)
    have Hb6 := Lib.hid (hm6.belowOf HB0.out (by omega) (by omega))
    have Hpl := Lib.hid (show attrB a = bytE ((⟨1, 2, 0, a.name⟩ :: l) ++ [⟨20, 0, IntKind.u64.wrap a.kind, ⟨#[]⟩⟩]) by unfold attrB; rw [Hl.out])
    clear hm6
    go_wp2_with fail
    refine HZ.out.mono ?_
    rintro e w7 ⟨hb7, ⟨b, hb, rfl⟩ | ⟨err, hb, rfl⟩⟩
    · have Hb := Lib.hid (Hpl.out.trans hb)
      have Hb7 := Lib.hid (Hb6.out.trans (hb7.mono Hb6.out.size))
      clear hb hb7
      go_wp2
      go_ret
      exact wrote_yes Hb7.out Hb.out
    · exact ⟨rfl, wrote_no (Hb6.out.trans (hb7.mono Hb6.out.size)) (Hpl.out.trans hb)⟩
end Go.Proofs.Ytkcnpnnflbibiaa
