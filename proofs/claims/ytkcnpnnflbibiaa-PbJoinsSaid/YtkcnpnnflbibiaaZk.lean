/- Plain laws: fields written are read as they were; fields read are written in no more bytes. Plain laws: what is written is read as it was; what is read is written in no more bytes. The walks: the program's Write. -/
import Derived.Test.YtkcnpnnflbibiaaZb
import Derived.Test.YtkcnpnnflbibiaaZj
set_option linter.unusedVariables false
/- Plain laws: fields written are read as they were; fields read are written in no more bytes. -/
namespace Go.Proofs.Ytkcnpnnflbibiaa
open Go.RowKit

theorem bt_str (xs : List Int) (hb : ∀ x ∈ xs, 0 ≤ x ∧ x < 256) (k : Nat) (x : Int) (h : xs[k]? = some x) : bt (strOfNums xs) k = x := by
  unfold bt
  rw [strOfNums_data, List.getD_eq_getElem?_getD, List.getElem?_map, h]
  have := hb x (List.mem_of_getElem? h)
  simp only [Option.map_some, Option.getD_some]
  rw [UInt8.toNat_ofNat']
  omega

theorem tkGo_venc (s : ByteArray) (p : Nat) : ∀ g i acc y, i + g = 9 → 0 ≤ y → y < 2 * two g → (∀ j x, (vencF g y)[j]? = some x → bt s (p + i + j) = x) → p + i + (vencF g y).length ≤ s.size →
    tkGo s p (g + 1) i acc = some (acc + y * two i, p + i + (vencF g y).length) := by
  intro g
  induction g with
  | zero =>
    intro i acc y hi h0 h1 hb hl
    rw [show two 0 = 1 from rfl] at h1
    have e : vencF 0 y = [y] := by rw [vencF_stop 0 y (by omega), show y % 256 = y by omega]
    rw [e] at hb hl ⊢
    have h := hb 0 y rfl
    rw [Nat.add_zero] at h
    rw [tkGo, if_neg (by simp at hl; omega), if_neg (by omega), if_pos (by omega)]
    simp only [nx, h, List.length_singleton]
    rw [show y % 128 = y by omega]
  | succ g ih =>
    intro i acc y hi h0 h1 hb hl
    by_cases hy : y < 128
    · have e : vencF (g + 1) y = [y] := by rw [vencF_stop _ y hy, show y % 256 = y by omega]
      rw [e] at hb hl ⊢
      have h := hb 0 y rfl
      rw [Nat.add_zero] at h
      rw [tkGo, if_neg (by simp at hl; omega), if_neg (by omega), if_pos (by omega)]
      simp only [nx, h, List.length_singleton]
      rw [show y % 128 = y by omega]
    · have e := vencF_more g y hy
      rw [e] at hb hl ⊢
      have h := hb 0 _ rfl
      rw [Nat.add_zero] at h
      rw [List.length_cons] at hl
      have ht : two (g + 1) = 128 * two g := two_succ g
      have hk := ih (i + 1) (nx s p i acc) (y / 128) (by omega) (by omega) (by omega) (fun j x hx => by
        have := hb (j + 1) x (by simpa using hx)
        rw [← this]; congr 1; omega) (by omega)
      rw [tkGo, if_neg (by omega), if_neg (by omega), if_neg (by omega), hk]
      have hv : nx s p i acc + y / 128 * two (i + 1) = acc + y * two i := by
        unfold nx
        rw [h, two_succ, show (y % 128 + 128) % 128 = y % 128 by omega]
        have e2 : y = y % 128 + y / 128 * 128 := by omega
        conv => rhs; rw [e2]
        rw [Int.add_mul, Int.mul_assoc, Int.add_assoc]
      rw [hv, List.length_cons]
      congr 2
      omega
theorem tk_venc (u : Int) (h0 : 0 ≤ u) (h1 : u < B64) : tk (strOfNums (venc u)) 0 = some (u, (strOfNums (venc u)).size) := by
  have h := tkGo_venc (strOfNums (venc u)) 0 9 0 0 u (by omega) h0 (by rw [two_9]; unfold B64 at h1; omega) (fun j x hx => by
    rw [Nat.add_zero, Nat.zero_add]
    exact bt_str _ (vencF_byte 9 u h0) j x hx) (by rw [strOfNums_size]; simp [venc])
  unfold tk
  rw [h, strOfNums_size, show two 0 = 1 from rfl]
  simp [venc]

/-- A number read from so many bytes is small. -/
theorem tkGo_min (s : ByteArray) (p : Nat) : ∀ f i acc v n, tkGo s p f i acc = some (v, n) → ∃ y m, 0 ≤ y ∧ v = acc + y * two i ∧ n = p + i + m ∧ 1 ≤ m ∧ y < two m := by
  intro f
  induction f with
  | zero => intro i acc v n h; simp [tkGo] at h
  | succ f ih =>
    intro i acc v n h
    rw [tkGo] at h
    have hb := bt_bd s (p + i)
    split at h
    · cases h
    · split at h
      · cases h
      · split at h
        · rename_i hlt
          simp only [Option.some.injEq, Prod.mk.injEq] at h
          refine ⟨bt s (p + i), 1, hb.1, ?_, by omega, by omega, by rw [two_succ, show two 0 = 1 from rfl]; omega⟩
          rw [← h.1]; unfold nx; rw [show bt s (p + i) % 128 = bt s (p + i) by omega]
        · obtain ⟨y, m, y0, hv, hn, hm, hy⟩ := ih _ _ _ _ h
          refine ⟨bt s (p + i) % 128 + 128 * y, m + 1, by omega, ?_, by omega, by omega, by rw [two_succ]; omega⟩
          rw [hv, two_succ]
          unfold nx
          rw [Int.add_mul, Int.add_assoc, show y * (128 * two i) = 128 * y * two i by rw [← Int.mul_assoc, Int.mul_comm y 128]]
theorem vencF_min : ∀ f y m, 0 ≤ y → 1 ≤ m → y < two m → (vencF f y).length ≤ m := by
  intro f
  induction f with
  | zero => intro y m _ hm _; simp [vencF]; omega
  | succ f ih =>
    intro y m h0 hm hy
    by_cases h : y < 128
    · rw [vencF_stop _ _ h]; simp; omega
    · rw [vencF_more _ _ h]
      obtain ⟨k, rfl⟩ : ∃ k, m = k + 1 := ⟨m - 1, by omega⟩
      have hk : k ≠ 0 := fun e => by subst e; rw [two_succ, show two 0 = 1 from rfl] at hy; omega
      rw [two_succ] at hy
      have := ih (y / 128) k (by omega) (by omega) (by omega)
      simp; omega
theorem tk_min {s : ByteArray} {p : Nat} {u : Int} {n : Nat} (h : tk s p = some (u, n)) : p + (strOfNums (venc u)).size ≤ n := by
  obtain ⟨y, m, y0, hv, hn, hm, hy⟩ := tkGo_min s p 10 0 0 u n h
  rw [show two 0 = 1 from rfl] at hv
  have e : u = y := by omega
  subst e
  have := vencF_min 9 u m y0 hm hy
  rw [strOfNums_size]
  unfold venc
  omega
theorem lowS_byt (s : ByteArray) : ∀ n p u, 0 ≤ u → u < 256 ^ n → (∀ i, i < n → bt s (p + i) = byt u i) → lowS s p n = u := by
  intro n
  induction n with
  | zero => intro p u h0 h1 _; simp at h1; simp [lowS]; omega
  | succ n ih =>
    intro p u h0 h1 hb
    have hq : u / 256 < 256 ^ n := Int.ediv_lt_of_lt_mul (by omega) (by rw [Int.pow_succ] at h1; exact h1)
    have hr := ih (p + 1) (u / 256) (by omega) hq (fun i hi => by
      rw [show p + 1 + i = p + (i + 1) by omega, hb (i + 1) (by omega)]
      unfold byt
      rw [← byt_step, Int.ediv_ediv_of_nonneg (Int.pow_nonneg (by omega)), Int.mul_comm, ← Int.ediv_ediv_of_nonneg (by omega)])
    have h := hb 0 (by omega)
    rw [lowS, hr, ← Nat.add_zero p, h]
    simp [byt]
    omega
theorem leS_byte (n : Nat) (u : Int) : ∀ x ∈ leS n u, 0 ≤ x ∧ x < 256 := by
  intro x hx
  simp only [leS, List.mem_map] at hx
  obtain ⟨i, _, rfl⟩ := hx
  unfold byt; omega
theorem lowS_leS (n : Nat) (u : Int) (h0 : 0 ≤ u) (h1 : u < 256 ^ n) : lowS (strOfNums (leS n u)) 0 n = u :=
  lowS_byt _ n 0 u h0 h1 fun i hi => by
    rw [Nat.zero_add]
    exact bt_str _ (leS_byte n u) i _ (by simp [leS, hi])
theorem leS_size (n : Nat) (u : Int) : (strOfNums (leS n u)).size = n := by rw [strOfNums_size]; simp [leS]
end Go.Proofs.Ytkcnpnnflbibiaa

/- Plain laws: what is written is read as it was; what is read is written in no more bytes. -/
namespace Go.Proofs.Ytkcnpnnflbibiaa
open Go.RowKit

theorem pow8 : (256 : Int) ^ 8 = 18446744073709551616 := by decide
theorem pow4 : (256 : Int) ^ 4 = 4294967296 := by decide
theorem extract_all (t : ByteArray) : t.extract 0 t.size = t := by
  apply list_ext
  simp

theorem body_form (f : Fd) (hg : GoodF f) (ho : FdOk f) : bodyS (contB f) (f.num * 8 + f.kind) 0 = some (f, (contB f).size) := by
  obtain ⟨num, kind, u, b⟩ := f
  have u0 : 0 ≤ u := ho.u0
  have u1 : u < B64 := ho.u1
  have hz : b.size ≤ 140737488351232 := ho.b
  obtain ⟨n1, n2, hk⟩ := hg
  dsimp only at n1 n2 hk ⊢
  rcases hk with ⟨rfl, rfl⟩ | ⟨rfl, rfl⟩ | ⟨rfl, rfl, hu⟩ | ⟨rfl, rfl⟩
  · have e : contB ⟨num, 0, u, ⟨#[]⟩⟩ = strOfNums (venc u) := by simp [contB]
    unfold bodyS
    rw [e, if_pos (by omega), tk_venc u u0 u1]
    simp only [Option.map_some]
    rw [show (num * 8 + 0) / 8 = num by omega]
  · have e : contB ⟨num, 1, u, ⟨#[]⟩⟩ = strOfNums (leS 8 u) := by simp [contB]
    unfold bodyS
    rw [e, if_neg (by omega), if_pos (by omega), leS_size, if_neg (by omega), lowS_leS 8 u u0 (by unfold B64 at u1; have e8 := pow8; omega)]
    rw [show (num * 8 + 1) / 8 = num by omega]
  · have e : contB ⟨num, 5, u, ⟨#[]⟩⟩ = strOfNums (leS 4 u) := by simp [contB]
    unfold bodyS
    rw [e, if_neg (by omega), if_neg (by omega), if_pos (by omega), leS_size, if_neg (by omega), lowS_leS 4 u u0 (by have e4 := pow4; omega)]
    rw [show (num * 8 + 5) / 8 = num by omega]
  · have e : contB ⟨num, 2, 0, b⟩ = strOfNums (venc b.size) ++ b := by simp [contB]
    unfold bodyS
    rw [e, if_neg (by omega), if_neg (by omega), if_neg (by omega), if_pos (by omega), tk_left b (tk_venc b.size (by omega) (by unfold B64; omega))]
    simp only [Option.bind_some]
    rw [if_neg (by rw [size_app]; omega), show (num * 8 + 2) / 8 = num by omega, Int.toNat_natCast]
    have h := extract_right (strOfNums (venc b.size)) b 0 b.size
    rw [Nat.add_zero, extract_all] at h
    rw [h, size_app]
theorem field_form (f : Fd) (hg : GoodF f) (ho : FdOk f) : fieldS (formB f) 0 = some (f, (formB f).size) := by
  have hk := good_kind hg
  have h1 := hg.1
  have h2 := hg.2.1
  have ht := tk_venc (f.num * 8 + f.kind) (by omega) (by unfold B64; omega)
  unfold fieldS formB headB
  rw [tk_left (contB f) ht]
  simp only [Option.bind_some]
  rw [if_neg (by omega)]
  have hb := bodyS_right (strOfNums (venc (f.num * 8 + f.kind))) (contB f) (f.num * 8 + f.kind) 0
  rw [Nat.add_zero] at hb
  rw [hb, body_form f hg ho]
  simp
theorem fields_text (l : List Fd) (hg : AllGood l) (ho : ∀ f ∈ l, FdOk f) : fieldsS (textB l) 0 = some l := by
  induction l with
  | nil => exact fields_end (by simp [textB]; rfl)
  | cons f l ih =>
    have hf := field_form f (hg f (by simp)) (ho f (by simp))
    have hb := fieldS_bd hf
    have hs : (textB (f :: l)).size = (formB f).size + (textB l).size := by simp only [textB, size_app]
    rw [fields_step (by rw [hs]; omega) (show fieldS (textB (f :: l)) 0 = some (f, (formB f).size) from fieldS_left (textB l) hf)]
    have hr := fields_right (formB f) (textB l)
    rw [show textB (f :: l) = formB f ++ textB l from rfl, hr, ih (fun g h => hg g (by simp [h])) (fun g h => ho g (by simp [h]))]
    rfl

theorem body_read {s : ByteArray} {hd : Int} {p : Nat} (h8 : 8 ≤ hd) (h32 : hd ≤ 4294967295) (hz : s.size ≤ 140737488351232) (hp : p ≤ s.size) {f : Fd} {n : Nat} (h : bodyS s hd p = some (f, n)) :
    GoodF f ∧ FdOk f ∧ f.num * 8 + f.kind = hd ∧ p + (contB f).size ≤ n := by
  unfold bodyS at h
  split at h
  · rename_i hk
    cases e : tk s p with
    | none => rw [e] at h; cases h
    | some r =>
      rw [e] at h
      simp only [Option.map_some, Option.some.injEq, Prod.mk.injEq] at h
      obtain ⟨rfl, rfl⟩ := h
      have hb := tk_bd (show tk s p = some (r.1, r.2) by rw [e])
      have hm := tk_min (show tk s p = some (r.1, r.2) by rw [e])
      refine ⟨⟨by dsimp only; omega, by dsimp only; omega, .inl ⟨rfl, rfl⟩⟩, ⟨by dsimp only; omega, by dsimp only; omega, by dsimp only; omega, by dsimp only; omega, hb.1, hb.2.1, by dsimp only; decide⟩, by dsimp only; omega, ?_⟩
      simp only [contB, if_pos]
      omega
  · split at h
    · rename_i hk
      split at h
      · cases h
      · simp only [Option.some.injEq, Prod.mk.injEq] at h
        obtain ⟨rfl, rfl⟩ := h
        have hb := lowS_bd s p 8
        have e8 : (256 : Int) ^ 8 = 18446744073709551616 := by decide
        rw [e8] at hb
        refine ⟨⟨by dsimp only; omega, by dsimp only; omega, .inr (.inl ⟨rfl, rfl⟩)⟩, ⟨by dsimp only; omega, by dsimp only; omega, by dsimp only; omega, by dsimp only; omega, hb.1, hb.2, by dsimp only; decide⟩, by dsimp only; omega, ?_⟩
        have e : contB ⟨hd / 8, 1, lowS s p 8, ⟨#[]⟩⟩ = strOfNums (leS 8 (lowS s p 8)) := by simp [contB]
        rw [e, leS_size]; omega
    · split at h
      · rename_i hk
        split at h
        · cases h
        · simp only [Option.some.injEq, Prod.mk.injEq] at h
          obtain ⟨rfl, rfl⟩ := h
          have hb := lowS_bd s p 4
          have e8 : (256 : Int) ^ 4 = 4294967296 := by decide
          rw [e8] at hb
          refine ⟨⟨by dsimp only; omega, by dsimp only; omega, .inr (.inr (.inl ⟨rfl, rfl, by dsimp only; omega⟩))⟩, ⟨by dsimp only; omega, by dsimp only; omega, by dsimp only; omega, by dsimp only; omega, hb.1, by unfold B64; dsimp only; omega, by dsimp only; decide⟩, by dsimp only; omega, ?_⟩
          have e : contB ⟨hd / 8, 5, lowS s p 4, ⟨#[]⟩⟩ = strOfNums (leS 4 (lowS s p 4)) := by simp [contB]
          rw [e, leS_size]; omega
      · split at h
        · rename_i hk
          cases e : tk s p with
          | none => rw [e] at h; cases h
          | some r =>
            rw [e] at h
            simp only [Option.bind_some] at h
            have hb := tk_bd (show tk s p = some (r.1, r.2) by rw [e])
            have hm := tk_min (show tk s p = some (r.1, r.2) by rw [e])
            split at h
            · cases h
            · simp only [Option.some.injEq, Prod.mk.injEq] at h
              obtain ⟨rfl, rfl⟩ := h
              have hs : (s.extract r.2 (r.2 + r.1.toNat)).size = r.1.toNat := by simp; omega
              refine ⟨⟨by dsimp only; omega, by dsimp only; omega, .inr (.inr (.inr ⟨rfl, rfl⟩))⟩, ⟨by dsimp only; omega, by dsimp only; omega, by dsimp only; omega, by dsimp only; omega, by dsimp only; omega, by dsimp only; decide, by dsimp only; omega⟩, by dsimp only; omega, ?_⟩
              have e : contB ⟨hd / 8, 2, 0, s.extract r.2 (r.2 + r.1.toNat)⟩ = strOfNums (venc r.1.toNat) ++ s.extract r.2 (r.2 + r.1.toNat) := by simp only [contB, hs]; simp
              rw [e, size_app, hs, Int.toNat_of_nonneg hb.1]
              omega
        · cases h
theorem field_read {s : ByteArray} {p : Nat} (hz : s.size ≤ 140737488351232) {f : Fd} {n : Nat} (h : fieldS s p = some (f, n)) : GoodF f ∧ FdOk f ∧ p + (formB f).size ≤ n := by
  unfold fieldS at h
  cases e : tk s p with
  | none => rw [e] at h; cases h
  | some r =>
    rw [e] at h
    simp only [Option.bind_some] at h
    have hb := tk_bd (show tk s p = some (r.1, r.2) by rw [e])
    have hm := tk_min (show tk s p = some (r.1, r.2) by rw [e])
    split at h
    · cases h
    · obtain ⟨h1, h2, h3, h4⟩ := body_read (by omega) (by omega) hz (by omega) h
      refine ⟨h1, h2, ?_⟩
      unfold formB headB
      rw [h3, size_app]
      omega
theorem fields_read (s : ByteArray) (hz : s.size ≤ 140737488351232) : ∀ k p l, s.size - p ≤ k → fieldsS s p = some l → AllGood l ∧ (∀ f ∈ l, FdOk f) ∧ (textB l).size ≤ s.size - p := by
  intro k
  induction k with
  | zero =>
    intro p l hk h
    rw [fields_end (by omega)] at h
    cases h
    exact ⟨fun f h => by simp at h, fun f h => by simp at h, Nat.zero_le _⟩
  | succ k ih =>
    intro p l hk h
    by_cases hlt : p < s.size
    · cases hf : fieldS s p with
      | none => rw [fields_bad hlt hf] at h; cases h
      | some r =>
        obtain ⟨f, n⟩ := r
        have hb := fieldS_bd hf
        obtain ⟨g1, g2, g3⟩ := field_read hz hf
        rw [fields_step hlt hf] at h
        cases hr : fieldsS s n with
        | none => rw [hr] at h; cases h
        | some l' =>
          rw [hr] at h
          cases h
          obtain ⟨i1, i2, i3⟩ := ih n l' (by omega) hr
          refine ⟨fun g hm => ?_, fun g hm => ?_, ?_⟩
          · rcases List.mem_cons.1 hm with rfl | hm
            · exact g1
            · exact i1 g hm
          · rcases List.mem_cons.1 hm with rfl | hm
            · exact g2
            · exact i2 g hm
          · rw [show textB (f :: l') = formB f ++ textB l' from rfl, size_app]; omega
    · rw [fields_end hlt] at h
      cases h
      exact ⟨fun f h => by simp at h, fun f h => by simp at h, Nat.zero_le _⟩
end Go.Proofs.Ytkcnpnnflbibiaa

/- The walks: the program's Write. -/
namespace Go.Proofs.Ytkcnpnnflbibiaa
open Go.RowKit

theorem or_head (num kind : Int) (h0 : 0 ≤ kind) (h1 : kind ≤ 5) (n1 : 1 ≤ num) (n2 : num ≤ 536870911) : bits .or .u64 (num * 8) kind = num * 8 + kind := by
  have e := bits_join_low .u64 64 (by decide) wraps_u64 3 kind (num * 8) h0 (by omega) (by omega) (by omega) (by omega) (by omega)
  have c : bits .or .u64 (num * 8) kind = bits .or .u64 kind (num * 8) := by
    unfold bits; simp [Nat.or_comm]
  rw [c, e]; omega

set_option maxRecDepth 100000 in
set_option maxHeartbeats 1600000 in
theorem pwrite_any (l : List Fd) (A : Option Addr) (n c : Nat) (w : World) (B : Nat) (hl : Flds w B A n l) (hB : B ≤ w.heap.size) (hok : ∀ f ∈ l, FdOk f) (hsz : (textB l).size ≤ 4611686018427387904) (r : ByteArray) (err : Int) (h : WrIs l r err) :
    Calls Try.prog 66 #[.slice A n c] w (Txt w r err) := by
  obtain ⟨i0, hi, hz0, hz1, hz2⟩ := info_parts Try.info5
  have H := Lib.hid h
  have Hl := Lib.hid hl.len
  have hm : n ≤ 9223372036854775807 := hl.small
  have Hcv := Lib.hid (fun wx v s B (h : OwnS wx B v s) => run_text (P := Try.prog) wx 51 9 Try.underlying51 Try.underlying5 Try.underlying9 B v s h)
  clear h
  go_enter Try.func66, Try.ntmps66
  go_wp2_with fail
  go_loopw [4, 5, 12] (fun v z i wr => ∃ k : Nat, k ≤ n ∧ i = .int .i64 k ∧ AllGood (l.take k) ∧ Below w.heap.size w wr ∧ z = .int .i64 ((textB (l.take k)).size : Int) ∧ ∃ s, OwnS wr w.heap.size v s ∧ s.size ≤ 16777216 ∧ ((textB (l.take k)).size ≤ 16777216 → s = textB (l.take k))) (fun _ _ i _ => n - (intOf i).toNat)
  case atStart => exact ⟨0, by omega, rfl, fun f h => by simp at h, Below.refl _ _, rfl, _, ownS_nil _ _, by decide, fun _ => rfl⟩
  case round =>
    obtain ⟨k, hk, rfl, hg, hb, rfl, s, ho, hs, hcase⟩ := hrel
    have z0 := hb.size
    have Hb := Lib.hid hb
    have Hg := Lib.hid hg
    have Ho := Lib.hid ho
    have Hs := Lib.hid hcase
    clear hb hg hcase
    have e0 := textB_mono l k
    by_cases hlt : k < n
    · obtain ⟨b1, o1, rfl, hb1, hc1⟩ := hl.at_ (by omega)
      obtain ⟨f, hf⟩ : ∃ f, l[k]? = some f := ⟨_, List.getElem?_eq_getElem (by rw [Hl.out]; exact hlt)⟩
      obtain ⟨x0, x1, x2, x3⟩ := hc1 k f hf
      rw [Nat.mul_comm 4 k] at x0 x1 x2 x3
      have y0 := (Hb.out.cell (p := ⟨b1, o1 + k * 4, none⟩) (by dsimp only; omega)).trans x0
      have y1 := (Hb.out.cell (p := ⟨b1, o1 + k * 4 + 1, none⟩) (by dsimp only; omega)).trans x1
      have y2 := (Hb.out.cell (p := ⟨b1, o1 + k * 4 + 2, none⟩) (by dsimp only; omega)).trans x2
      have y3 := (Hb.out.cell (p := ⟨b1, o1 + k * 4 + 3, none⟩) (by dsimp only; omega)).trans x3
      have Hf := Lib.hid hf
      have fm : f ∈ l := List.mem_of_getElem? hf
      have Hfm := Lib.hid fm
      have e1 : (textB (l.take (k + 1))).size = (textB (l.take k)).size + (formB f).size := by rw [textB_take l k f Hf.out, ByteArray.size_append]
      have e2 := textB_mono l (k + 1)
      obtain ⟨A4, c4, rfl⟩ := Ho.out.form
      have HT := Lib.hid (fun w => content_any f w (hok f fm))
      clear x0 x1 x2 x3 hf fm hc1
      obtain ⟨num, kind, u, b⟩ := f
      dsimp only at y0 y1 y2 y3
      go_wp2_with fail
      refine (HT.out _).mono ?_
      rintro e w1 ⟨c', ok, rfl, hyes, hno, hb1⟩
      have p0 : w1.cell? ⟨wr.heap.size, 0, none⟩ = some (.int .i64 num) := (hb1.cell (by simp)).trans (cell_of_row _ _ 0 _ 24 (0, 0) (heap_alloc_new wr _))
      have p1 : w1.cell? ⟨wr.heap.size, 1, none⟩ = some (.int .i64 kind) := (hb1.cell (by simp)).trans (cell_of_row _ _ 1 _ 24 (0, 0) (heap_alloc_new wr _))
      have Hb1 := Lib.hid ((Hb.out.alloc z0 (.cells #[.int .i64 num, .int .i64 kind, .int .u64 u, .string b] 24)).trans (hb1.mono (by simp; omega)))
      have Ho1 := Lib.hid ((Ho.out.below ((Below.refl _ _).alloc (Nat.le_refl _) (.cells #[.int .i64 num, .int .i64 kind, .int .u64 u, .string b] 24))).below hb1)
      have z1 := Hb1.out.size
      clear hb1 y0 y1 y2 y3 HT
      cases ok with
      | false =>
        have hgf := hno rfl
        have He : Hid (r = ⟨#[]⟩ ∧ err = 1) := Lib.hid (by
          rcases H.out with ⟨_, h⟩ | ⟨h, _⟩ | ⟨h, _⟩
          · exact h
          · exact absurd (h _ Hfm.out) hgf
          · exact absurd (h _ Hfm.out) hgf)
        clear hgf hno hyes
        go_wp2
        go_ret2
        exact txt_ret Hb1.out He.out.1.symm He.out.2.symm
      | true =>
        obtain ⟨hgf, rfl⟩ := hyes rfl
        have n1 : 1 ≤ num := hgf.1
        have n2 : num ≤ 536870911 := hgf.2.1
        have q1 : 0 ≤ kind := (good_kind hgf).1
        have q2 : kind ≤ 5 := (good_kind hgf).2
        have Hgf := Lib.hid hgf
        have T : ∀ w, Calls Try.prog 65 #[.int .u64 (bits .or .u64 (num * 8) kind)] w fun e w' => e = .returned (.string (strOfNums (venc (num * 8 + kind)))) ∧ Below w.heap.size w w' := fun w => by
          rw [or_head num kind q1 q2 n1 n2]
          exact varint_w (num * 8 + kind) w (by omega) (by unfold B64; omega)
        have HV := Lib.hid T
        have hfe : formB ⟨num, kind, u, b⟩ = strOfNums (venc (num * 8 + kind)) ++ contB ⟨num, kind, u, b⟩ := rfl
        have hfs : (formB ⟨num, kind, u, b⟩).size = (strOfNums (venc (num * 8 + kind))).size + (contB ⟨num, kind, u, b⟩).size := by rw [hfe, ByteArray.size_append]
        have hq : ¬ 9223372036854775807 < (strOfNums (venc (num * 8 + kind))).size + (contB ⟨num, kind, u, b⟩).size := by omega
        have Hfe := Lib.hid hfe
        clear hgf hno hyes T hfe
        go_wp2_with fail
        refine (HV.out _).mono ?_
        rintro e w2 ⟨rfl, hb2⟩
        have Hb2 := Lib.hid (Hb1.out.trans (hb2.mono z1))
        have Ho2 := Lib.hid (Ho1.out.below hb2)
        have z2 := Hb2.out.size
        clear hb2 p0 p1
        by_cases hbig : 16777216 < (textB (l.take (k + 1))).size
        · have hbig2 : 16777216 < ((textB (l.take k)).size : Int) + ((strOfNums (venc (num * 8 + kind))).size + (contB ⟨num, kind, u, b⟩).size : Int) := by omega
          go_wp2
          go_roundw
          case rel => exact ⟨k + 1, by omega, by go_num, good_take Hf.out Hg.out Hgf.out, Hb2.out, by simp; omega, _, Ho2.out, hs, fun h => by omega⟩
          case measure => simp [intOf]; omega
        · have hbig2 : ((textB (l.take k)).size : Int) + ((strOfNums (venc (num * 8 + kind))).size + (contB ⟨num, kind, u, b⟩).size : Int) ≤ 16777216 := by omega
          have hse := Lib.hid (Hs.out (by omega))
          go_wp2_with (at_builtin; refine wpList_append_s _ rfl (.tmp 40) (.tmp 41) 51 9 rfl i0 Try.underlying51 Try.underlying9 hi hz0 hz1 hz2 w.heap.size _ s rfl Ho2.out (strOfNums (venc (num * 8 + kind)) ++ contB ⟨num, kind, u, b⟩) rfl (by rw [ByteArray.size_append]; omega) (by omega) ?_; intro v' w3 ho3 hg3)
          go_roundw
          case rel => exact ⟨k + 1, by omega, by go_num, good_take Hf.out Hg.out Hgf.out, Ho2.out.grown Hb2.out hg3 (by omega), by simp; omega, _, ho3, by rw [hse.out, ← Hfe.out, ← textB_take l k _ Hf.out]; omega, fun _ => by rw [hse.out, ← Hfe.out, ← textB_take l k _ Hf.out]⟩
          case measure => simp [intOf]; omega
    · obtain rfl : k = n := by omega
      have Ht : Hid (l.take k = l) := Lib.hid (by rw [← Hl.out, List.take_length])
      by_cases hbig : 16777216 < (textB (l.take k)).size
      · have He : Hid ((⟨#[]⟩ : ByteArray) = r ∧ 6 = err) := Lib.hid (by
          have hg := Hg.out
          rw [Ht.out] at hbig hg
          rcases H.out with ⟨h, _⟩ | ⟨_, _, h, h'⟩ | ⟨_, h, _⟩
          · exact absurd hg h
          · exact ⟨h.symm, h'.symm⟩
          · omega)
        go_wp2
        go_ret2
        exact txt_ret Hb.out He.out.1 He.out.2
      · have hc := Hcv.out _ _ _ _ Ho.out
        have He : Hid (s = r ∧ 0 = err) := Lib.hid (by
          have hg := Hg.out
          have hs2 := Hs.out (by omega)
          rw [Ht.out] at hbig hg hs2
          rcases H.out with ⟨h, _⟩ | ⟨_, h, _⟩ | ⟨_, _, h, h'⟩
          · exact absurd hg h
          · omega
          · exact ⟨hs2.trans h.symm, h'.symm⟩)
        obtain ⟨A4, c4, rfl⟩ := Ho.out.form
        go_wp2
        go_ret2
        exact txt_ret Hb.out He.out.1 He.out.2
end Go.Proofs.Ytkcnpnnflbibiaa
