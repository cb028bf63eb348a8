/- Plain laws: what is written is read as it was; what is read is written in no more bytes. -/
import Derived.Test.YtpnieegaemfffaaPw
namespace Go.Proofs.Ytpnieegaemfffaa
open Go.RowKit

theorem pow8 : (256 : Int) ^ 8 = 18446744073709551616 := by decide
theorem pow4 : (256 : Int) ^ 4 = 4294967296 := by decide
theorem extract_all (t : ByteArray) : t.extract 0 t.size = t := by
  apply list_ext
  simp

theorem body_form (f : Fd) (hg : GoodF f) (ho : FdOk f) : bodyS (contB f) (f.num * 8 + f.kind) 0 = some (f, (contB f).size) := by
  obtain ⟨num, kind, u, b⟩ := f
  have u0 : 0 ≤ u := ho.u0
  have u1 : u < B64 := ho.u1
  have hz : b.size ≤ 140737488351232 := ho.b
  obtain ⟨n1, n2, hk⟩ := hg
  dsimp only at n1 n2 hk ⊢
  rcases hk with ⟨rfl, rfl⟩ | ⟨rfl, rfl⟩ | ⟨rfl, rfl, hu⟩ | ⟨rfl, rfl⟩
  · have e : contB ⟨num, 0, u, ⟨#[]⟩⟩ = strOfNums (venc u) := by simp [contB]
    unfold bodyS
    rw [e, if_pos (by omega), tk_venc u u0 u1]
    simp only [Option.map_some]
    rw [show (num * 8 + 0) / 8 = num by omega]
  · have e : contB ⟨num, 1, u, ⟨#[]⟩⟩ = strOfNums (leS 8 u) := by simp [contB]
    unfold bodyS
    rw [e, if_neg (by omega), if_pos (by omega), leS_size, if_neg (by omega), lowS_leS 8 u u0 (by unfold B64 at u1; have e8 := pow8; omega)]
    rw [show (num * 8 + 1) / 8 = num by omega]
  · have e : contB ⟨num, 5, u, ⟨#[]⟩⟩ = strOfNums (leS 4 u) := by simp [contB]
    unfold bodyS
    rw [e, if_neg (by omega), if_neg (by omega), if_pos (by omega), leS_size, if_neg (by omega), lowS_leS 4 u u0 (by have e4 := pow4; omega)]
    rw [show (num * 8 + 5) / 8 = num by omega]
  · have e : contB ⟨num, 2, 0, b⟩ = strOfNums (venc b.size) ++ b := by simp [contB]
    unfold bodyS
    rw [e, if_neg (by omega), if_neg (by omega), if_neg (by omega), if_pos (by omega), tk_left b (tk_venc b.size (by omega) (by unfold B64; omega))]
    simp only [Option.bind_some]
    rw [if_neg (by rw [size_app]; omega), show (num * 8 + 2) / 8 = num by omega, Int.toNat_natCast]
    have h := extract_right (strOfNums (venc b.size)) b 0 b.size
    rw [Nat.add_zero, extract_all] at h
    rw [h, size_app]
theorem field_form (f : Fd) (hg : GoodF f) (ho : FdOk f) : fieldS (formB f) 0 = some (f, (formB f).size) := by
  have hk := good_kind hg
  have h1 := hg.1
  have h2 := hg.2.1
  have ht := tk_venc (f.num * 8 + f.kind) (by omega) (by unfold B64; omega)
  unfold fieldS formB headB
  rw [tk_left (contB f) ht]
  simp only [Option.bind_some]
  rw [if_neg (by omega)]
  have hb := bodyS_right (strOfNums (venc (f.num * 8 + f.kind))) (contB f) (f.num * 8 + f.kind) 0
  rw [Nat.add_zero] at hb
  rw [hb, body_form f hg ho]
  simp [size_app]
theorem fields_text (l : List Fd) (hg : AllGood l) (ho : ∀ f ∈ l, FdOk f) : fieldsS (textB l) 0 = some l := by
  induction l with
  | nil => exact fields_end (by simp [textB]; rfl)
  | cons f l ih =>
    have hf := field_form f (hg f (by simp)) (ho f (by simp))
    have hb := fieldS_bd hf
    have hs : (textB (f :: l)).size = (formB f).size + (textB l).size := by simp only [textB, size_app]
    rw [fields_step (by rw [hs]; omega) (show fieldS (textB (f :: l)) 0 = some (f, (formB f).size) from fieldS_left (textB l) hf)]
    have hr := fields_right (formB f) (textB l)
    rw [show textB (f :: l) = formB f ++ textB l from rfl, hr, ih (fun g h => hg g (by simp [h])) (fun g h => ho g (by simp [h]))]
    rfl

theorem body_read {s : ByteArray} {hd : Int} {p : Nat} (h8 : 8 ≤ hd) (h32 : hd ≤ 4294967295) (hz : s.size ≤ 140737488351232) (hp : p ≤ s.size) {f : Fd} {n : Nat} (h : bodyS s hd p = some (f, n)) :
    GoodF f ∧ FdOk f ∧ f.num * 8 + f.kind = hd ∧ p + (contB f).size ≤ n := by
  unfold bodyS at h
  split at h
  · rename_i hk
    cases e : tk s p with
    | none => rw [e] at h; cases h
    | some r =>
      rw [e] at h
      simp only [Option.map_some, Option.some.injEq, Prod.mk.injEq] at h
      obtain ⟨rfl, rfl⟩ := h
      have hb := tk_bd (show tk s p = some (r.1, r.2) by rw [e])
      have hm := tk_min (show tk s p = some (r.1, r.2) by rw [e])
      refine ⟨⟨by dsimp only; omega, by dsimp only; omega, .inl ⟨rfl, rfl⟩⟩, ⟨by dsimp only; omega, by dsimp only; omega, by dsimp only; omega, by dsimp only; omega, hb.1, hb.2.1, by dsimp only; decide⟩, by dsimp only; omega, ?_⟩
      simp only [contB, if_pos]
      omega
  · split at h
    · rename_i hk
      split at h
      · cases h
      · simp only [Option.some.injEq, Prod.mk.injEq] at h
        obtain ⟨rfl, rfl⟩ := h
        have hb := lowS_bd s p 8
        have e8 : (256 : Int) ^ 8 = 18446744073709551616 := by decide
        rw [e8] at hb
        refine ⟨⟨by dsimp only; omega, by dsimp only; omega, .inr (.inl ⟨rfl, rfl⟩)⟩, ⟨by dsimp only; omega, by dsimp only; omega, by dsimp only; omega, by dsimp only; omega, hb.1, hb.2, by dsimp only; decide⟩, by dsimp only; omega, ?_⟩
        have e : contB ⟨hd / 8, 1, lowS s p 8, ⟨#[]⟩⟩ = strOfNums (leS 8 (lowS s p 8)) := by simp [contB]
        rw [e, leS_size]; omega
    · split at h
      · rename_i hk
        split at h
        · cases h
        · simp only [Option.some.injEq, Prod.mk.injEq] at h
          obtain ⟨rfl, rfl⟩ := h
          have hb := lowS_bd s p 4
          have e8 : (256 : Int) ^ 4 = 4294967296 := by decide
          rw [e8] at hb
          refine ⟨⟨by dsimp only; omega, by dsimp only; omega, .inr (.inr (.inl ⟨rfl, rfl, by dsimp only; omega⟩))⟩, ⟨by dsimp only; omega, by dsimp only; omega, by dsimp only; omega, by dsimp only; omega, hb.1, by unfold B64; dsimp only; omega, by dsimp only; decide⟩, by dsimp only; omega, ?_⟩
          have e : contB ⟨hd / 8, 5, lowS s p 4, ⟨#[]⟩⟩ = strOfNums (leS 4 (lowS s p 4)) := by simp [contB]
          rw [e, leS_size]; omega
      · split at h
        · rename_i hk
          cases e : tk s p with
          | none => rw [e] at h; cases h
          | some r =>
            rw [e] at h
            simp only [Option.bind_some] at h
            have hb := tk_bd (show tk s p = some (r.1, r.2) by rw [e])
            have hm := tk_min (show tk s p = some (r.1, r.2) by rw [e])
            split at h
            · cases h
            · simp only [Option.some.injEq, Prod.mk.injEq] at h
              obtain ⟨rfl, rfl⟩ := h
              have hs : (s.extract r.2 (r.2 + r.1.toNat)).size = r.1.toNat := by simp; omega
              refine ⟨⟨by dsimp only; omega, by dsimp only; omega, .inr (.inr (.inr ⟨rfl, rfl⟩))⟩, ⟨by dsimp only; omega, by dsimp only; omega, by dsimp only; omega, by dsimp only; omega, by dsimp only; omega, by dsimp only; decide, by dsimp only; omega⟩, by dsimp only; omega, ?_⟩
              have e : contB ⟨hd / 8, 2, 0, s.extract r.2 (r.2 + r.1.toNat)⟩ = strOfNums (venc r.1.toNat) ++ s.extract r.2 (r.2 + r.1.toNat) := by simp only [contB, hs]; simp
              rw [e, size_app, hs, Int.toNat_of_nonneg hb.1]
              omega
        · cases h
theorem field_read {s : ByteArray} {p : Nat} (hz : s.size ≤ 140737488351232) {f : Fd} {n : Nat} (h : fieldS s p = some (f, n)) : GoodF f ∧ FdOk f ∧ p + (formB f).size ≤ n := by
  unfold fieldS at h
  cases e : tk s p with
  | none => rw [e] at h; cases h
  | some r =>
    rw [e] at h
    simp only [Option.bind_some] at h
    have hb := tk_bd (show tk s p = some (r.1, r.2) by rw [e])
    have hm := tk_min (show tk s p = some (r.1, r.2) by rw [e])
    split at h
    · cases h
    · obtain ⟨h1, h2, h3, h4⟩ := body_read (by omega) (by omega) hz (by omega) h
      refine ⟨h1, h2, ?_⟩
      unfold formB headB
      rw [h3, size_app]
      omega
theorem fields_read (s : ByteArray) (hz : s.size ≤ 140737488351232) : ∀ k p l, s.size - p ≤ k → fieldsS s p = some l → AllGood l ∧ (∀ f ∈ l, FdOk f) ∧ (textB l).size ≤ s.size - p := by
  intro k
  induction k with
  | zero =>
    intro p l hk h
    rw [fields_end (by omega)] at h
    cases h
    exact ⟨fun f h => by simp at h, fun f h => by simp at h, Nat.zero_le _⟩
  | succ k ih =>
    intro p l hk h
    by_cases hlt : p < s.size
    · cases hf : fieldS s p with
      | none => rw [fields_bad hlt hf] at h; cases h
      | some r =>
        obtain ⟨f, n⟩ := r
        have hb := fieldS_bd hf
        obtain ⟨g1, g2, g3⟩ := field_read hz hf
        rw [fields_step hlt hf] at h
        cases hr : fieldsS s n with
        | none => rw [hr] at h; cases h
        | some l' =>
          rw [hr] at h
          cases h
          obtain ⟨i1, i2, i3⟩ := ih n l' (by omega) hr
          refine ⟨fun g hm => ?_, fun g hm => ?_, ?_⟩
          · rcases List.mem_cons.1 hm with rfl | hm
            · exact g1
            · exact i1 g hm
          · rcases List.mem_cons.1 hm with rfl | hm
            · exact g2
            · exact i2 g hm
          · rw [show textB (f :: l') = formB f ++ textB l' from rfl, size_app]; omega
    · rw [fields_end hlt] at h
      cases h
      exact ⟨fun f h => by simp at h, fun f h => by simp at h, Nat.zero_le _⟩
end Go.Proofs.Ytpnieegaemfffaa
