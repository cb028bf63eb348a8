/- The walks: numbers written. -/
import Derived.Test.YtpnieegaemfffaaWb
import Derived.Laws.BytesArg
namespace Go.Proofs.Ytpnieegaemfffaa
open Go.RowKit

theorem Try.info5 : (Try.prog.info? 5).map (fun i => (i.zero, i.size, i.bytes)) = some (some (.int .u8 0), 1, 1) := by kernel_rfl

/-- The call's own bytes. -/
def OwnB (w : World) (B : Nat) (v : Value) (l : List Int) : Prop := w.ownsRow B 5 1 v l.length (l.map (Value.int .u8)) ∧ l.length ≤ maxLen
theorem ownB_nil (w : World) (B : Nat) : OwnB w B (.slice none 0 0) [] := ⟨World.ownsRow_nil _ _ _ _, Nat.zero_le _⟩

theorem ownB_form {w : World} {B : Nat} {v : Value} {l : List Int} (h : OwnB w B v l) : ∃ A c, v = .slice A l.length c := by
  rcases h.1.2 with ⟨rfl, hn⟩ | ⟨g, cap, cur, rfl, _⟩
  · exact ⟨none, 0, by rw [hn]⟩
  · exact ⟨_, _, rfl⟩
/-- One byte more. -/
theorem wpList_append_b1 {P : Program} (w0 : World) (x : Int) {ops : Array Oper} {rest : List Oper} {o : Oper} {a : Act} {Q : Exit → Act → World → Prop} (hgd : o.guard = none) (s y : Operand) (t : TypeId)
    (ho : o.op = .call { callee := .builtin .append, args := #[s, y], argTypes := #[t, t] })
    (i : TypeInfo) (ht : P.underlying t = some (.slice 5)) (hi : P.info? 5 = some i) (hz : i.zero = some (.int .u8 0)) (hsize : i.size = 1) (hby : i.bytes = 1)
    (B : Nat) (v : Value) (l : List Int) (hs : a.eval s = v) (hown : OwnB w0 B v l) (hx : a.eval y = .slice (some ⟨w0.heap.size, 0, none⟩) 1 1)
    (hlen : l.length + 1 ≤ 140737488355328) (hbase : B ≤ w0.heap.size)
    (h : ∀ v' w', OwnB w' B v' (l ++ [x]) → (w0.alloc (.cells #[.int .u8 x] 5)).grownBy w' v.ownBlock → wpList P ops Q rest (a.put o.dst v') w') : wpList P ops Q (o :: rest) a (w0.alloc (.cells #[.int .u8 x] 5)) := by
  refine wpList_append_own _ hgd s y t ho B 5 i (.int .u8 0) 1 1 ht hi hz hsize hby rfl (by decide) v l.length (l.map (Value.int .u8)) hs (hown.1.alloc _) ⟨w0.heap.size, 0, none⟩ 1 1 [.int .u8 x] hx rfl ?_ ?_ (by unfold maxLen; omega) (by omega) (by simp; omega) ?_
  · intro j u hj
    match j, hj with
    | 0, hj => simp at hj; subst hj; simp [Addr.add]
  · intro u hu; simp at hu; subst hu; rfl
  · intro v' w' h2 h3 _
    refine h v' w' ⟨?_, by simp; unfold maxLen; omega⟩ h3
    simpa using h2
theorem ownB_below {a w0 w' : World} {x : Int} {B : Nat} {v : Value} {l : List Int} (h : OwnB w0 B v l) (hb : Below B a w0) (hg : (w0.alloc (.cells #[.int .u8 x] 5)).grownBy w' v.ownBlock) (hB : B ≤ w0.heap.size) : Below B a w' :=
  (hb.alloc hB _).grown hg (by simp; omega) fun k hk => (h.1.lt k hk).1
/-- The call's own bytes, as a string. -/
theorem run_string_own {P : Program} (w : World) (src dst : TypeId) (hs : P.underlying src = some (.slice 5)) (he : P.underlying 5 = some (.int .u8)) (hd : P.underlying dst = some .string)
    (B : Nat) (v : Value) (l : List Int) (h : OwnB w B v l) : (convert src dst v).run P w = .ok (.string (strOfNums l)) w := by
  rcases h.1.2 with ⟨rfl, hn⟩ | ⟨g, cap, cur, rfl, _⟩
  · have : l = [] := List.eq_nil_of_length_eq_zero hn
    subst this
    exact run_convert_bytes_nil w src 5 hs he 0 0 dst hd
  · refine run_convert_bytes_arg w src 5 hs he g 0 l.length cap l rfl ?_ dst hd
    intro i hi
    rw [Nat.zero_add, h.1.cellAt i (by omega)]
    simp [hi]

theorem or128 {c : Int} (h₀ : 0 ≤ c) : bits .or .u8 (c % 256) 128 = c % 128 + 128 := by
  have h : c % 256 = c % 128 + 128 * (c / 128 % 2) := by omega
  have h2 : c / 128 % 2 = 0 ∨ c / 128 % 2 = 1 := by omega
  have key : ∀ a : Fin 256, bits .or .u8 (a.val : Int) 128 = (a.val : Int) % 128 + 128 := by decide +kernel
  have := key ⟨(c % 256).toNat, by omega⟩
  simp only at this
  rw [show (((c % 256).toNat : Nat) : Int) = c % 256 by omega] at this
  rw [this]; omega

theorem u64div {y : Int} (d : Int) (h0 : 0 ≤ y) (h1 : y < B64) (hd : 1 ≤ d) : IntKind.u64.wrap (y.tdiv d) = y / d := by
  rw [Int.tdiv_eq_ediv_of_nonneg h0]
  have h2 : 0 ≤ y / d := Int.ediv_nonneg h0 (by omega)
  have h3 : y / d ≤ y := Int.ediv_le_self _ h0
  exact IntWalk.u64_in _ ⟨h2, by unfold B64 at h1; omega⟩
theorem two_64 {y : Int} {f : Nat} (hf : f ≤ 9) (h : y < 2 * two f) : y < B64 := by
  have := two_le f 9 hf
  rw [two_9] at this
  unfold B64; omega

set_option maxRecDepth 100000 in
set_option maxHeartbeats 800000 in
theorem varint_w (u : Int) (w : World) (h0 : 0 ≤ u) (h1 : u < B64) : Calls Try.prog 11 #[.int .u64 u] w fun e w' => e = .returned (.string (strOfNums (venc u))) ∧ Below w.heap.size w w' := by
  obtain ⟨i0, hi, hz0, hz1, hz2⟩ := info_parts Try.info5
  have H1 := Lib.hid h1
  clear h1
  have hcv := fun wx v l B (h : OwnB wx B v l) => run_string_own (P := Try.prog) wx 50 9 Try.underlying50 Try.underlying5 Try.underlying9 B v l h
  have Hcv := Lib.hid hcv
  clear hcv
  go_enter Try.func11, Try.ntmps11
  go_wp2_with fail
  go_loopw [0, 3] (fun x v wr => ∃ y : Int, ∃ l : List Int, ∃ f : Nat, x = .int .u64 y ∧ 0 ≤ y ∧ (f = 0 → y < 128) ∧ f + l.length = 9 ∧ l ++ vencF f y = venc u ∧ y < 2 * two f ∧ OwnB wr w.heap.size v l ∧ Below w.heap.size w wr) (fun x _ _ => (intOf x).toNat)
  case atStart =>
    refine ⟨u, [], 9, rfl, h0, by omega, rfl, rfl, ?_, ownB_nil _ _, Below.refl _ _⟩
    have := H1.out
    rw [two_9]; unfold B64 at this; omega
  case round =>
    obtain ⟨y, l, f, rfl, y0, yf, hfl, hv, hy2, ho, hb⟩ := hrel
    have Hv := Lib.hid hv
    have Hy2 := Lib.hid hy2
    have Hfl := Lib.hid hfl
    have hl9 : l.length ≤ 9 := by omega
    clear hv hy2 hfl
    have hsz := hb.size
    by_cases hy : 128 ≤ y
    · have hf : f ≠ 0 := fun e => by have := yf e; omega
      clear yf
      obtain ⟨f, rfl⟩ := Nat.exists_eq_succ_of_ne_zero hf
      clear hf
      have Hor := Lib.hid (or128 y0)
      go_wp2_with (at_builtin; refine wpList_append_b1 wr _ rfl (.tmp 8) (.tmp 12) 50 rfl i0 Try.underlying50 hi hz0 hz1 hz2 w.heap.size _ l rfl ho rfl (by omega) hsz ?_; intro v' w1 hown hgrow)
      go_roundw
      case rel =>
        refine ⟨y / 128, l ++ [y % 128 + 128], f, by go_num, by omega, ?_, ?_, ?_, ?_, ?_, ownB_below ho hb hgrow hsz⟩
        · intro e
          subst e
          have := Hy2.out
          rw [two_succ, show two 0 = 1 from rfl] at this
          omega
        · have := Hfl.out; simp; omega
        · rw [← Hv.out, vencF_more f y (by omega)]; simp
        · have := Hy2.out
          rw [two_succ] at this
          omega
        · rw [← Hor.out]; exact hown
      case measure => simp [intOf]; omega
    · go_wp2_with (at_builtin; refine wpList_append_b1 wr _ rfl (.tmp 14) (.tmp 17) 50 rfl i0 Try.underlying50 hi hz0 hz1 hz2 w.heap.size _ l rfl ho rfl (by omega) hsz ?_; intro v' w1 hown hgrow; have hc := Hcv.out _ _ _ _ hown; have Hown := Lib.hid hown; clear hown)
      go_ret
      refine ⟨?_, ownB_below ho hb hgrow hsz⟩
      rw [← Hv.out, vencF_stop f y (by omega), show y % 256 = y by omega]
      rfl
set_option maxRecDepth 100000 in
set_option maxHeartbeats 800000 in
theorem rvarint_w (u : Int) (w : World) (h0 : 0 ≤ u) (h1 : u < B64) : Calls Try.prog 12 #[.int .u64 u] w fun e w' => e = .returned (.string (strOfNums (venc u))) ∧ Below w.heap.size w w' := by
  obtain ⟨i0, hi, hz0, hz1, hz2⟩ := info_parts Try.info5
  have H1 := Lib.hid h1
  clear h1
  have hcv := fun wx v l B (h : OwnB wx B v l) => run_string_own (P := Try.prog) wx 50 9 Try.underlying50 Try.underlying5 Try.underlying9 B v l h
  have Hcv := Lib.hid hcv
  clear hcv
  go_enter Try.func12, Try.ntmps12
  go_wp2_with fail
  go_loopw [0, 3] (fun x v wr => ∃ y : Int, ∃ l : List Int, ∃ f : Nat, x = .int .u64 y ∧ 0 ≤ y ∧ (f = 0 → y < 128) ∧ f + l.length = 9 ∧ l ++ vencF f y = venc u ∧ y < 2 * two f ∧ OwnB wr w.heap.size v l ∧ Below w.heap.size w wr) (fun x _ _ => (intOf x).toNat)
  case atStart =>
    refine ⟨u, [], 9, rfl, h0, by omega, rfl, rfl, ?_, ownB_nil _ _, Below.refl _ _⟩
    have := H1.out
    rw [two_9]; unfold B64 at this; omega
  case round =>
    obtain ⟨y, l, f, rfl, y0, yf, hfl, hv, hy2, ho, hb⟩ := hrel
    have Hv := Lib.hid hv
    have Hy2 := Lib.hid hy2
    have Hfl := Lib.hid hfl
    have hl9 : l.length ≤ 9 := by omega
    have hq := u64div 128 y0 (two_64 (by omega) hy2) (by omega)
    clear hv hy2 hfl
    have hsz := hb.size
    by_cases hy : 128 ≤ y
    · have hf : f ≠ 0 := fun e => by have := yf e; omega
      clear yf
      obtain ⟨f, rfl⟩ := Nat.exists_eq_succ_of_ne_zero hf
      clear hf
      go_wp2_with (at_builtin; refine wpList_append_b1 wr _ rfl (.tmp 6) (.tmp 11) 50 rfl i0 Try.underlying50 hi hz0 hz1 hz2 w.heap.size _ l rfl ho rfl (by omega) hsz ?_; intro v' w1 hown hgrow)
      go_roundw
      case rel =>
        refine ⟨y / 128, l ++ [y % 128 + 128], f, by go_num, by omega, ?_, ?_, ?_, ?_, ?_, ownB_below ho hb hgrow hsz⟩
        · intro e
          subst e
          have := Hy2.out
          rw [two_succ, show two 0 = 1 from rfl] at this
          omega
        · have := Hfl.out; simp; omega
        · rw [← Hv.out, vencF_more f y (by omega)]; simp
        · have := Hy2.out
          rw [two_succ] at this
          omega
        · exact hown
      case measure => simp [intOf]; omega
    · go_wp2_with (at_builtin; refine wpList_append_b1 wr _ rfl (.tmp 15) (.tmp 18) 50 rfl i0 Try.underlying50 hi hz0 hz1 hz2 w.heap.size _ l rfl ho rfl (by omega) hsz ?_; intro v' w1 hown hgrow; have hc := Hcv.out _ _ _ _ hown; have Hown := Lib.hid hown; clear hown)
      go_ret
      refine ⟨?_, ownB_below ho hb hgrow hsz⟩
      rw [← Hv.out, vencF_stop f y (by omega), show y % 256 = y by omega]
      rfl
end Go.Proofs.Ytpnieegaemfffaa
