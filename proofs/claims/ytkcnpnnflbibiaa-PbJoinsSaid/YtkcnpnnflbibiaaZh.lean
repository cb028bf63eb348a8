/- The walks: floats of a field, put behind some. The walks: elements that stand in bytes. -/
import Derived.Test.YtkcnpnnflbibiaaZf
import Derived.Test.YtkcnpnnflbibiaaZg
set_option linter.unusedVariables false
/- The walks: floats of a field, put behind some. -/
namespace Go.Proofs.Ytkcnpnnflbibiaa
open Go.RowKit

/-- A piece of a text, and what is left behind so many. -/
def piece (s : ByteArray) (n k : Nat) : ByteArray := s.extract (n * k) (n * k + n)
def left_ (s : ByteArray) (n k : Nat) : ByteArray := s.extract (n * k) s.size
theorem left_size (s : ByteArray) (n k : Nat) : (left_ s n k).size = s.size - n * k := by simp [left_]
theorem left_zero (s : ByteArray) (n : Nat) : left_ s n 0 = s := by unfold left_; rw [Nat.mul_zero]; apply list_ext; simp
theorem left_piece (s : ByteArray) (n k : Nat) (h : n * k + n ≤ s.size) : (left_ s n k).extract 0 n = piece s n k := by
  unfold left_ piece
  apply list_ext
  simp only [ByteArray.data_extract, Array.toList_extract, List.extract_eq_take_drop, List.drop_zero, Nat.sub_zero]
  rw [List.take_take]
  congr 1
  omega
theorem left_next (s : ByteArray) (n k : Nat) : (left_ s n k).extract n (left_ s n k).size = left_ s n (k + 1) := by
  rw [left_size]
  unfold left_
  apply list_ext
  simp only [ByteArray.data_extract, Array.toList_extract, List.extract_eq_take_drop]
  rw [List.drop_take, List.drop_drop, List.take_take, Nat.mul_succ]
  congr 1
  omega
theorem piece_size (s : ByteArray) (n k : Nat) (h : n * k + n ≤ s.size) : (piece s n k).size = n := by simp [piece]; omega
theorem left_some (s : ByteArray) (n k : Nat) (h : n * k < s.size) : (left_ s n k).toList.isEmpty = false := empty_ne fun e => by
  have := left_size s n k
  rw [e] at this
  have h0 : (⟨#[]⟩ : ByteArray).size = 0 := rfl
  omega
theorem left_none (s : ByteArray) (n k : Nat) (h : s.size ≤ n * k) : (left_ s n k).toList.isEmpty = true := by
  rw [ByteArray.toList_eq]
  have h1 : (left_ s n k).data.toList.length = 0 := by
    rw [Array.length_toList]
    have := left_size s n k
    have e : (left_ s n k).data.size = (left_ s n k).size := rfl
    omega
  rw [List.eq_nil_of_length_eq_zero h1]; rfl
/-- The elements in pieces of n bytes. -/
def elems (g : Int → Int) (s : ByteArray) (n k : Nat) : List Int := (List.range k).map fun j => g (upS (piece s n j) n)
theorem elems_succ (g : Int → Int) (s : ByteArray) (n k : Nat) : elems g s n (k + 1) = elems g s n k ++ [g (upS (piece s n k) n)] := by simp [elems, List.range_succ]
theorem elems_len (g : Int → Int) (s : ByteArray) (n k : Nat) : (elems g s n k).length = k := by simp [elems]
def floatsS (f : Fd) : Option (List Int) := if f.kind = 5 then some [flt f.u] else if f.kind = 2 ∧ f.b.size % 4 = 0 then some (elems flt f.b 4 (f.b.size / 4)) else none

set_option maxRecDepth 100000 in
set_option maxHeartbeats 1600000 in
theorem floats_any (v : Value) (l : List Int) (f : Fd) (B : Nat) (w : World) (hown : OwnI w B v l) (hB : B ≤ w.heap.size) (hb : f.b.size ≤ 16777216) (hl : l.length ≤ 16777216) (hu : 0 ≤ f.u ∧ f.u < B64) :
    Calls Try.prog 75 #[v, f.val] w (VarsIs v l (floatsS f) B w) := by
  obtain ⟨i0, hi, hz0, hz1, hz2⟩ := info_parts Try.info2
  have Ho := Lib.hid hown
  clear hown
  obtain ⟨num, kind, u, b⟩ := f
  dsimp only at hb hu
  unfold Fd.val
  by_cases h5 : kind = 5
  · subst h5
    have HF := Lib.hid (fun w => float_any u w hu.1 (by have := hu.2; unfold B64 at this; exact this))
    clear hu
    go_enter Try.func75, Try.ntmps75
    go_wp2_with fail
    refine (HF.out _).mono ?_
    rintro e w1 ⟨rfl, rfl⟩
    go_wp2_with (at_builtin; refine wpList_append_i1 (w.alloc (.cells #[.int .i64 num, .int .i64 5, .int .u64 u, .string b] 24)) _ rfl (.tmp 9) (.tmp 13) 45 rfl i0 _ rfl Try.underlying45 hi hz0 hz1 hz2 B v l rfl (Ho.out.alloc _) (w.heap.size + 1) (by simp) rfl (by omega) (by simp; omega) ?_; intro v' w2 ho2 hg2 hf2)
    go_ret
    exact ⟨grown_trans (grown_alloc w _ _) hg2 (fun k hk => .inl hk), .inl ⟨[flt u], v', rfl, rfl, ho2, fun k hk => by
      rcases hf2 k hk with h | h
      · exact .inl h
      · exact .inr (by simp at h; omega)⟩⟩
  · clear hu
    have e5 : (kind == 5) = false := by simpa using h5
    by_cases h2 : kind = 2
    · subst h2
      have T := fun w => text_yes num u b w
      unfold Fd.val at T
      have HT := Lib.hid T
      clear T
      by_cases h4 : b.size % 4 = 0
      · have hr : Hid (floatsS ⟨num, 2, u, b⟩ = some (elems flt b 4 (b.size / 4))) := Lib.hid (by simp [floatsS, h4])
        have hm4 : ((b.size : Int) % 4 == 0) = true := by simp; omega
        go_enter Try.func75, Try.ntmps75
        go_wp2_with fail
        refine (HT.out _).mono ?_
        rintro e w1 ⟨rfl, hb1⟩
        have z1 : w.heap.size < w1.heap.size := Nat.lt_of_lt_of_le (by simp) hb1.size
        have Ho1 := Lib.hid ((Ho.out.alloc (.cells #[.int .i64 num, .int .i64 2, .int .u64 u, .string b] 24)).below hb1)
        have Hg1 := Lib.hid (grown_trans (grown_alloc w _ _) (grown_below hb1 v.ownBlock) (fun k hk => .inl hk))
        clear hb1
        go_wp2_with fail
        refine (must_yes _ _).mono ?_
        rintro e w2 ⟨rfl, rfl⟩
        go_wp2_with fail
        go_loopw [0, 5] (fun x y wr => ∃ k : Nat, 4 * k ≤ b.size ∧ y = .string (left_ b 4 k) ∧ OwnI wr B x (l ++ elems flt b 4 k) ∧ w1.grownBy wr v.ownBlock ∧ From v x w1.heap.size) (fun _ y _ => match y with | .string z => z.size | _ => 0)
        case atStart => exact ⟨0, by omega, by rw [left_zero], by simpa [elems] using Ho1.out, World.grownBy.refl _ _, From.refl _ _⟩
        case round =>
          obtain ⟨k, hk, rfl, ho, hg, hf⟩ := hrel
          have Hg := Lib.hid hg
          have Hf := Lib.hid hf
          have Hor := Lib.hid ho
          have z3 := hg.size
          have hls := left_size b 4 k
          have Hls := Lib.hid hls
          clear hg hf ho
          by_cases hlt : 4 * k < b.size
          · have hne := left_some b 4 k hlt
            have hge : 4 ≤ (left_ b 4 k).size := by omega
            have hp := left_piece b 4 k (by omega)
            have hq := left_next b 4 k
            have hps := piece_size b 4 k (by omega)
            have L := fun w => low_w (piece b 4 k) w (by omega)
            rw [hps] at L
            have HL := Lib.hid L
            have hub := upS_bd (piece b 4 k) 4
            have e4 : (256 : Int) ^ 4 = 4294967296 := by decide
            rw [e4] at hub
            have HF := Lib.hid (fun w => float_any (upS (piece b 4 k) 4) w hub.1 (by omega))
            have hll := elems_len flt b 4 k
            have hlk : (l ++ elems flt b 4 k).length ≤ 33554432 := by rw [List.length_append, hll]; omega
            have Hq := Lib.hid hq
            clear L hub e4 hll hps hls
            go_wp2_with fail
            refine (HL.out _).mono ?_
            rintro e w3 ⟨rfl, rfl⟩
            go_wp2_with fail
            refine (HF.out _).mono ?_
            rintro e w4 ⟨rfl, rfl⟩
            go_wp2_with (at_builtin; refine wpList_append_i1 wr _ rfl (.tmp 26) (.tmp 31) 45 rfl i0 _ rfl Try.underlying45 hi hz0 hz1 hz2 B _ _ rfl Hor.out wr.heap.size rfl rfl (by omega) (by have := Hg1.out.size; omega) ?_; intro v' w4 ho4 hg4 hf4)
            go_roundw
            case rel =>
              refine ⟨k + 1, by omega, by rw [← Hq.out], ?_, grown_trans Hg.out hg4 Hf.out, From.trans Hf.out hf4 z3⟩
              rw [elems_succ, ← List.append_assoc]
              exact ho4
            case measure =>
              have h1 := left_size b 4 (k + 1)
              have h2 := Hls.out
              try rw [Hq.out]
              show (left_ b 4 (k + 1)).size < (left_ b 4 k).size
              omega
          · have he := left_none b 4 k (by omega)
            have hkk : k = b.size / 4 := by omega
            have Hkk := Lib.hid hkk
            clear hls hkk
            go_wp2
            go_ret
            rw [Hkk.out] at Hor
            exact ⟨grown_trans Hg1.out Hg.out (fun k hk => .inl hk), .inl ⟨_, _, hr.out, rfl, Hor.out, fun k hk => by
              rcases Hf.out k hk with h | h
              · exact .inl h
              · exact .inr (by omega)⟩⟩
      · have hr : Hid (floatsS ⟨num, 2, u, b⟩ = none) := Lib.hid (by simp [floatsS, h4])
        have hm4 : ((b.size : Int) % 4 == 0) = false := by simp; omega
        go_enter Try.func75, Try.ntmps75
        go_wp2_with fail
        refine (HT.out _).mono ?_
        rintro e w1 ⟨rfl, hb1⟩
        have Hg1 := Lib.hid (grown_trans (grown_alloc w _ _) (grown_below hb1 v.ownBlock) (fun k hk => .inl hk))
        clear hb1
        go_wp2_with fail
        refine (must_no _ _).mono ?_
        rintro e w2 ⟨rfl, rfl⟩
        exact ⟨rfl, vars_no Hg1.out hr.out⟩
    · have hr : Hid (floatsS ⟨num, kind, u, b⟩ = none) := Lib.hid (by simp [floatsS, h5, h2])
      have T := fun w => text_no num kind u b w h2
      unfold Fd.val at T
      go_enter Try.func75, Try.ntmps75
      go_wp2_with fail
      refine (T _).mono ?_
      rintro e w1 ⟨rfl, hb1⟩
      exact ⟨rfl, vars_no (grown_trans (grown_alloc w _ _) (grown_below hb1 v.ownBlock) (fun k hk => .inl hk)) hr.out⟩
end Go.Proofs.Ytkcnpnnflbibiaa

/- The walks: elements that stand in bytes. -/
namespace Go.Proofs.Ytkcnpnnflbibiaa
open Go.RowKit

def w32 (u : Int) : Int := wrap64 (wrap32 u)
def elemG (typ : Int) : Int → Int := if typ = 1 then flt else if typ = 6 then w32 else i64
def widthN (typ : Int) : Nat := if typ = 7 then 8 else if typ = 9 then 1 else 4
def bytesS (typ : Int) (b : ByteArray) : Option (List Int) := if b.size % widthN typ = 0 then some (elems (elemG typ) b (widthN typ) (b.size / widthN typ)) else none
/-- What bytes leaves. -/
def BytesIs (r : Option (List Int)) (w : World) (e : Ending) (w' : World) : Prop :=
  Below w.heap.size w w' ∧ ((∃ m v', r = some m ∧ e = .returned v' ∧ OwnI w' w.heap.size v' m) ∨ (r = none ∧ e = .panicked (refu 4)))
theorem below_grown {w w1 w' : World} {r : Option Nat} (h : Below w.heap.size w w1) (g : w1.grownBy w' r) (hr : ∀ k, r = some k → w.heap.size ≤ k) : Below w.heap.size w w' := h.grown g h.size hr

set_option maxRecDepth 100000 in
set_option maxHeartbeats 1600000 in
theorem bytes_7 (b : ByteArray) (w : World) (hb : b.size ≤ 16777216) : Calls Try.prog 76 #[.int .i64 7, .string b] w (BytesIs (if b.size % 8 = 0 then some (elems i64 b 8 (b.size / 8)) else none) w) := by
  obtain ⟨i0, hi, hz0, hz1, hz2⟩ := info_parts Try.info2
  by_cases hm : b.size % 8 = 0
  · rw [if_pos hm]
    have hm4 : ((b.size : Int) % 8 == 0) = true := by simp; omega
    go_enter Try.func76, Try.ntmps76
    go_wp2_with fail
    refine (must_yes _ _).mono ?_
    rintro e w2 ⟨rfl, rfl⟩
    go_wp2_with fail
    go_loopw [1, 6, 7] (fun y x _ wr => ∃ k : Nat, 8 * k ≤ b.size ∧ y = .string (left_ b 8 k) ∧ OwnI wr w.heap.size x (elems i64 b 8 k) ∧ Below w.heap.size w wr) (fun y _ _ _ => match y with | .string z => z.size | _ => 0)
    case atStart => exact ⟨0, by omega, by rw [left_zero], ownI_nil _ _, Below.refl _ _⟩
    case round =>
      obtain ⟨k, hk, rfl, ho, hg⟩ := hrel
      have Hg := Lib.hid hg
      have Ho := Lib.hid ho
      have z3 := hg.size
      have hls := left_size b 8 k
      have Hls := Lib.hid hls
      clear hg ho
      by_cases hlt : 8 * k < b.size
      · have hne := left_some b 8 k hlt
        have hge : 8 ≤ (left_ b 8 k).size := by omega
        have hp := left_piece b 8 k (by omega)
        have hq := left_next b 8 k
        have hps := piece_size b 8 k (by omega)
        have L := fun w => low_w (piece b 8 k) w (by omega)
        rw [hps] at L
        have HL := Lib.hid L
        have hub := upS_bd (piece b 8 k) 8
        have e4 : (256 : Int) ^ 8 = 18446744073709551616 := by decide
        rw [e4] at hub
        have hll := elems_len i64 b 8 k
        have hlk : (elems i64 b 8 k).length ≤ 33554432 := by rw [hll]; omega
        have Hq := Lib.hid hq
        clear L hub e4 hll hps hls
        go_wp2_with fail
        refine (HL.out _).mono ?_
        rintro e w3 ⟨rfl, rfl⟩
        go_wp2_with (at_builtin; refine wpList_append_i1 wr _ rfl (.tmp 29) (.tmp 32) 45 rfl i0 _ rfl Try.underlying45 hi hz0 hz1 hz2 w.heap.size _ _ rfl Ho.out wr.heap.size rfl rfl (by omega) (by omega) ?_; intro v' w4 ho4 hg4 hf4)
        go_roundw
        case rel =>
          refine ⟨k + 1, by omega, by rw [← Hq.out], ?_, below_grown Hg.out hg4 fun k hk => (OwnL.lt Ho.out k hk).1⟩
          rw [elems_succ]
          exact ho4
        case measure =>
          have h1 := left_size b 8 (k + 1)
          have h2 := Hls.out
          try rw [Hq.out]
          show (left_ b 8 (k + 1)).size < (left_ b 8 k).size
          omega
      · have he := left_none b 8 k (by omega)
        have hkk : k = b.size / 8 := by omega
        have Hkk := Lib.hid hkk
        clear hls hkk
        go_wp2
        go_ret
        rw [Hkk.out] at Ho
        exact ⟨Hg.out, .inl ⟨_, _, rfl, rfl, Ho.out⟩⟩
  · rw [if_neg hm]
    have hm4 : ((b.size : Int) % 8 == 0) = false := by simp; omega
    go_enter Try.func76, Try.ntmps76
    go_wp2_with fail
    refine (must_no _ _).mono ?_
    rintro e w2 ⟨rfl, rfl⟩
    exact ⟨rfl, Below.refl _ _, .inr ⟨rfl, rfl⟩⟩

set_option maxRecDepth 100000 in
set_option maxHeartbeats 1600000 in
theorem bytes_9 (b : ByteArray) (w : World) (hb : b.size ≤ 16777216) : Calls Try.prog 76 #[.int .i64 9, .string b] w (BytesIs (if b.size % 1 = 0 then some (elems i64 b 1 (b.size / 1)) else none) w) := by
  obtain ⟨i0, hi, hz0, hz1, hz2⟩ := info_parts Try.info2
  by_cases hm : b.size % 1 = 0
  · rw [if_pos hm]
    have hm4 : ((b.size : Int) % 1 == 0) = true := by simp
    go_enter Try.func76, Try.ntmps76
    go_wp2_with fail
    refine (must_yes _ _).mono ?_
    rintro e w2 ⟨rfl, rfl⟩
    go_wp2_with fail
    go_loopw [1, 6, 7] (fun y x _ wr => ∃ k : Nat, 1 * k ≤ b.size ∧ y = .string (left_ b 1 k) ∧ OwnI wr w.heap.size x (elems i64 b 1 k) ∧ Below w.heap.size w wr) (fun y _ _ _ => match y with | .string z => z.size | _ => 0)
    case atStart => exact ⟨0, by omega, by rw [left_zero], ownI_nil _ _, Below.refl _ _⟩
    case round =>
      obtain ⟨k, hk, rfl, ho, hg⟩ := hrel
      have Hg := Lib.hid hg
      have Ho := Lib.hid ho
      have z3 := hg.size
      have hls := left_size b 1 k
      have Hls := Lib.hid hls
      clear hg ho
      by_cases hlt : 1 * k < b.size
      · have hne := left_some b 1 k hlt
        have hge : 1 ≤ (left_ b 1 k).size := by omega
        have hp := left_piece b 1 k (by omega)
        have hq := left_next b 1 k
        have hps := piece_size b 1 k (by omega)
        have L := fun w => low_w (piece b 1 k) w (by omega)
        rw [hps] at L
        have HL := Lib.hid L
        have hub := upS_bd (piece b 1 k) 1
        have e4 : (256 : Int) ^ 1 = 256 := by decide
        rw [e4] at hub
        have hll := elems_len i64 b 1 k
        have hlk : (elems i64 b 1 k).length ≤ 33554432 := by rw [hll]; omega
        have Hq := Lib.hid hq
        clear L hub e4 hll hps hls
        go_wp2_with fail
        refine (HL.out _).mono ?_
        rintro e w3 ⟨rfl, rfl⟩
        go_wp2_with (at_builtin; refine wpList_append_i1 wr _ rfl (.tmp 29) (.tmp 32) 45 rfl i0 _ rfl Try.underlying45 hi hz0 hz1 hz2 w.heap.size _ _ rfl Ho.out wr.heap.size rfl rfl (by omega) (by omega) ?_; intro v' w4 ho4 hg4 hf4)
        go_roundw
        case rel =>
          refine ⟨k + 1, by omega, by rw [← Hq.out], ?_, below_grown Hg.out hg4 fun k hk => (OwnL.lt Ho.out k hk).1⟩
          rw [elems_succ]
          exact ho4
        case measure =>
          have h1 := left_size b 1 (k + 1)
          have h2 := Hls.out
          try rw [Hq.out]
          show (left_ b 1 (k + 1)).size < (left_ b 1 k).size
          omega
      · have he := left_none b 1 k (by omega)
        have hkk : k = b.size / 1 := by omega
        have Hkk := Lib.hid hkk
        clear hls hkk
        go_wp2
        go_ret
        rw [Hkk.out] at Ho
        exact ⟨Hg.out, .inl ⟨_, _, rfl, rfl, Ho.out⟩⟩
  · exact absurd (Nat.mod_one _) hm

set_option maxRecDepth 100000 in
set_option maxHeartbeats 1600000 in
theorem bytes_1 (b : ByteArray) (w : World) (hb : b.size ≤ 16777216) : Calls Try.prog 76 #[.int .i64 1, .string b] w (BytesIs (if b.size % 4 = 0 then some (elems flt b 4 (b.size / 4)) else none) w) := by
  obtain ⟨i0, hi, hz0, hz1, hz2⟩ := info_parts Try.info2
  by_cases hm : b.size % 4 = 0
  · rw [if_pos hm]
    have hm4 : ((b.size : Int) % 4 == 0) = true := by simp; omega
    go_enter Try.func76, Try.ntmps76
    go_wp2_with fail
    refine (must_yes _ _).mono ?_
    rintro e w2 ⟨rfl, rfl⟩
    go_wp2_with fail
    go_loopw [1, 6, 7] (fun y x _ wr => ∃ k : Nat, 4 * k ≤ b.size ∧ y = .string (left_ b 4 k) ∧ OwnI wr w.heap.size x (elems flt b 4 k) ∧ Below w.heap.size w wr) (fun y _ _ _ => match y with | .string z => z.size | _ => 0)
    case atStart => exact ⟨0, by omega, by rw [left_zero], ownI_nil _ _, Below.refl _ _⟩
    case round =>
      obtain ⟨k, hk, rfl, ho, hg⟩ := hrel
      have Hg := Lib.hid hg
      have Ho := Lib.hid ho
      have z3 := hg.size
      have hls := left_size b 4 k
      have Hls := Lib.hid hls
      clear hg ho
      by_cases hlt : 4 * k < b.size
      · have hne := left_some b 4 k hlt
        have hge : 4 ≤ (left_ b 4 k).size := by omega
        have hp := left_piece b 4 k (by omega)
        have hq := left_next b 4 k
        have hps := piece_size b 4 k (by omega)
        have L := fun w => low_w (piece b 4 k) w (by omega)
        rw [hps] at L
        have HL := Lib.hid L
        have hub := upS_bd (piece b 4 k) 4
        have e4 : (256 : Int) ^ 4 = 4294967296 := by decide
        rw [e4] at hub
        have HF := Lib.hid (fun w => float_any (upS (piece b 4 k) 4) w hub.1 (by omega))
        have hll := elems_len flt b 4 k
        have hlk : (elems flt b 4 k).length ≤ 33554432 := by rw [hll]; omega
        have Hq := Lib.hid hq
        clear L hub e4 hll hps hls
        go_wp2_with fail
        refine (HL.out _).mono ?_
        rintro e w3 ⟨rfl, rfl⟩
        go_wp2_with fail
        refine (HF.out _).mono ?_
        rintro e w4 ⟨rfl, rfl⟩
        go_wp2_with (at_builtin; refine wpList_append_i1 wr _ rfl (.tmp 36) (.tmp 39) 45 rfl i0 _ rfl Try.underlying45 hi hz0 hz1 hz2 w.heap.size _ _ rfl Ho.out wr.heap.size rfl rfl (by omega) (by omega) ?_; intro v' w4 ho4 hg4 hf4)
        go_roundw
        case rel =>
          refine ⟨k + 1, by omega, by rw [← Hq.out], ?_, below_grown Hg.out hg4 fun k hk => (OwnL.lt Ho.out k hk).1⟩
          rw [elems_succ]
          exact ho4
        case measure =>
          have h1 := left_size b 4 (k + 1)
          have h2 := Hls.out
          try rw [Hq.out]
          show (left_ b 4 (k + 1)).size < (left_ b 4 k).size
          omega
      · have he := left_none b 4 k (by omega)
        have hkk : k = b.size / 4 := by omega
        have Hkk := Lib.hid hkk
        clear hls hkk
        go_wp2
        go_ret
        rw [Hkk.out] at Ho
        exact ⟨Hg.out, .inl ⟨_, _, rfl, rfl, Ho.out⟩⟩
  · rw [if_neg hm]
    have hm4 : ((b.size : Int) % 4 == 0) = false := by simp; omega
    go_enter Try.func76, Try.ntmps76
    go_wp2_with fail
    refine (must_no _ _).mono ?_
    rintro e w2 ⟨rfl, rfl⟩
    exact ⟨rfl, Below.refl _ _, .inr ⟨rfl, rfl⟩⟩

set_option maxRecDepth 100000 in
set_option maxHeartbeats 1600000 in
theorem bytes_6 (b : ByteArray) (w : World) (hb : b.size ≤ 16777216) : Calls Try.prog 76 #[.int .i64 6, .string b] w (BytesIs (if b.size % 4 = 0 then some (elems w32 b 4 (b.size / 4)) else none) w) := by
  obtain ⟨i0, hi, hz0, hz1, hz2⟩ := info_parts Try.info2
  by_cases hm : b.size % 4 = 0
  · rw [if_pos hm]
    have hm4 : ((b.size : Int) % 4 == 0) = true := by simp; omega
    go_enter Try.func76, Try.ntmps76
    go_wp2_with fail
    refine (must_yes _ _).mono ?_
    rintro e w2 ⟨rfl, rfl⟩
    go_wp2_with fail
    go_loopw [1, 6, 7] (fun y x _ wr => ∃ k : Nat, 4 * k ≤ b.size ∧ y = .string (left_ b 4 k) ∧ OwnI wr w.heap.size x (elems w32 b 4 k) ∧ Below w.heap.size w wr) (fun y _ _ _ => match y with | .string z => z.size | _ => 0)
    case atStart => exact ⟨0, by omega, by rw [left_zero], ownI_nil _ _, Below.refl _ _⟩
    case round =>
      obtain ⟨k, hk, rfl, ho, hg⟩ := hrel
      have Hg := Lib.hid hg
      have Ho := Lib.hid ho
      have z3 := hg.size
      have hls := left_size b 4 k
      have Hls := Lib.hid hls
      clear hg ho
      by_cases hlt : 4 * k < b.size
      · have hne := left_some b 4 k hlt
        have hge : 4 ≤ (left_ b 4 k).size := by omega
        have hp := left_piece b 4 k (by omega)
        have hq := left_next b 4 k
        have hps := piece_size b 4 k (by omega)
        have L := fun w => low_w (piece b 4 k) w (by omega)
        rw [hps] at L
        have HL := Lib.hid L
        have hub := upS_bd (piece b 4 k) 4
        have e4 : (256 : Int) ^ 4 = 4294967296 := by decide
        rw [e4] at hub
        have hll := elems_len w32 b 4 k
        have hlk : (elems w32 b 4 k).length ≤ 33554432 := by rw [hll]; omega
        have Hq := Lib.hid hq
        clear L hub e4 hll hps hls
        go_wp2_with fail
        refine (HL.out _).mono ?_
        rintro e w3 ⟨rfl, rfl⟩
        go_wp2_with (at_builtin; refine wpList_append_i1 wr _ rfl (.tmp 43) (.tmp 47) 45 rfl i0 _ rfl Try.underlying45 hi hz0 hz1 hz2 w.heap.size _ _ rfl Ho.out wr.heap.size rfl rfl (by omega) (by omega) ?_; intro v' w4 ho4 hg4 hf4)
        go_roundw
        case rel =>
          refine ⟨k + 1, by omega, by rw [← Hq.out], ?_, below_grown Hg.out hg4 fun k hk => (OwnL.lt Ho.out k hk).1⟩
          rw [elems_succ]
          exact ho4
        case measure =>
          have h1 := left_size b 4 (k + 1)
          have h2 := Hls.out
          try rw [Hq.out]
          show (left_ b 4 (k + 1)).size < (left_ b 4 k).size
          omega
      · have he := left_none b 4 k (by omega)
        have hkk : k = b.size / 4 := by omega
        have Hkk := Lib.hid hkk
        clear hls hkk
        go_wp2
        go_ret
        rw [Hkk.out] at Ho
        exact ⟨Hg.out, .inl ⟨_, _, rfl, rfl, Ho.out⟩⟩
  · rw [if_neg hm]
    have hm4 : ((b.size : Int) % 4 == 0) = false := by simp; omega
    go_enter Try.func76, Try.ntmps76
    go_wp2_with fail
    refine (must_no _ _).mono ?_
    rintro e w2 ⟨rfl, rfl⟩
    exact ⟨rfl, Below.refl _ _, .inr ⟨rfl, rfl⟩⟩

set_option maxRecDepth 100000 in
set_option maxHeartbeats 1600000 in
theorem bytes_o (typ : Int) (b : ByteArray) (w : World) (hb : b.size ≤ 16777216) (h1 : typ ≠ 1) (h6 : typ ≠ 6) (h7 : typ ≠ 7) (h9 : typ ≠ 9) : Calls Try.prog 76 #[.int .i64 typ, .string b] w (BytesIs (if b.size % 4 = 0 then some (elems i64 b 4 (b.size / 4)) else none) w) := by
  obtain ⟨i0, hi, hz0, hz1, hz2⟩ := info_parts Try.info2
  by_cases hm : b.size % 4 = 0
  · rw [if_pos hm]
    have hm4 : ((b.size : Int) % 4 == 0) = true := by simp; omega
    go_enter Try.func76, Try.ntmps76
    go_wp2_with fail
    refine (must_yes _ _).mono ?_
    rintro e w2 ⟨rfl, rfl⟩
    go_wp2_with fail
    go_loopw [1, 6, 7] (fun y x _ wr => ∃ k : Nat, 4 * k ≤ b.size ∧ y = .string (left_ b 4 k) ∧ OwnI wr w.heap.size x (elems i64 b 4 k) ∧ Below w.heap.size w wr) (fun y _ _ _ => match y with | .string z => z.size | _ => 0)
    case atStart => exact ⟨0, by omega, by rw [left_zero], ownI_nil _ _, Below.refl _ _⟩
    case round =>
      obtain ⟨k, hk, rfl, ho, hg⟩ := hrel
      have Hg := Lib.hid hg
      have Ho := Lib.hid ho
      have z3 := hg.size
      have hls := left_size b 4 k
      have Hls := Lib.hid hls
      clear hg ho
      by_cases hlt : 4 * k < b.size
      · have hne := left_some b 4 k hlt
        have hge : 4 ≤ (left_ b 4 k).size := by omega
        have hp := left_piece b 4 k (by omega)
        have hq := left_next b 4 k
        have hps := piece_size b 4 k (by omega)
        have L := fun w => low_w (piece b 4 k) w (by omega)
        rw [hps] at L
        have HL := Lib.hid L
        have hub := upS_bd (piece b 4 k) 4
        have e4 : (256 : Int) ^ 4 = 4294967296 := by decide
        rw [e4] at hub
        have hll := elems_len i64 b 4 k
        have hlk : (elems i64 b 4 k).length ≤ 33554432 := by rw [hll]; omega
        have Hq := Lib.hid hq
        clear L hub e4 hll hps hls
        go_wp2_with fail
        refine (HL.out _).mono ?_
        rintro e w3 ⟨rfl, rfl⟩
        go_wp2_with (at_builtin; refine wpList_append_i1 wr _ rfl (.tmp 29) (.tmp 32) 45 rfl i0 _ rfl Try.underlying45 hi hz0 hz1 hz2 w.heap.size _ _ rfl Ho.out wr.heap.size rfl rfl (by omega) (by omega) ?_; intro v' w4 ho4 hg4 hf4)
        go_roundw
        case rel =>
          refine ⟨k + 1, by omega, by rw [← Hq.out], ?_, below_grown Hg.out hg4 fun k hk => (OwnL.lt Ho.out k hk).1⟩
          rw [elems_succ]
          exact ho4
        case measure =>
          have h1 := left_size b 4 (k + 1)
          have h2 := Hls.out
          try rw [Hq.out]
          show (left_ b 4 (k + 1)).size < (left_ b 4 k).size
          omega
      · have he := left_none b 4 k (by omega)
        have hkk : k = b.size / 4 := by omega
        have Hkk := Lib.hid hkk
        clear hls hkk
        go_wp2
        go_ret
        rw [Hkk.out] at Ho
        exact ⟨Hg.out, .inl ⟨_, _, rfl, rfl, Ho.out⟩⟩
  · rw [if_neg hm]
    have hm4 : ((b.size : Int) % 4 == 0) = false := by simp; omega
    go_enter Try.func76, Try.ntmps76
    go_wp2_with fail
    refine (must_no _ _).mono ?_
    rintro e w2 ⟨rfl, rfl⟩
    exact ⟨rfl, Below.refl _ _, .inr ⟨rfl, rfl⟩⟩

theorem bytes_any (typ : Int) (b : ByteArray) (w : World) (hb : b.size ≤ 16777216) : Calls Try.prog 76 #[.int .i64 typ, .string b] w (BytesIs (bytesS typ b) w) := by
  unfold bytesS elemG widthN
  by_cases h7 : typ = 7
  · subst h7; exact bytes_7 b w hb
  by_cases h9 : typ = 9
  · subst h9; exact bytes_9 b w hb
  by_cases h1 : typ = 1
  · subst h1; exact bytes_1 b w hb
  by_cases h6 : typ = 6
  · subst h6; exact bytes_6 b w hb
  have h := bytes_o typ b w hb h1 h6 h7 h9
  simpa only [if_neg h7, if_neg h9, if_neg h1, if_neg h6] using h
end Go.Proofs.Ytkcnpnnflbibiaa
