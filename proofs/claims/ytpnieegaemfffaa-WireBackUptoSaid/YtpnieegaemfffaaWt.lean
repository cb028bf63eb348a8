/- The walks: what stands behind a field's head. -/
import Derived.Test.YtpnieegaemfffaaWs
import Derived.Test.YtpnieegaemfffaaMf
import Derived.Deep.RegionHeld3
namespace Go.Proofs.Ytpnieegaemfffaa
open Go.RowKit

/-- A field that has a form. -/
def GoodF (f : Fd) : Prop := 1 ≤ f.num ∧ f.num ≤ 536870911 ∧ ((f.kind = 0 ∧ f.b = ⟨#[]⟩) ∨ (f.kind = 1 ∧ f.b = ⟨#[]⟩) ∨ (f.kind = 5 ∧ f.b = ⟨#[]⟩ ∧ f.u ≤ 4294967295) ∨ (f.kind = 2 ∧ f.u = 0))
def headB (f : Fd) : ByteArray := strOfNums (venc (f.num * 8 + f.kind))
def contB (f : Fd) : ByteArray := if f.kind = 0 then strOfNums (venc f.u) else if f.kind = 1 then strOfNums (leS 8 f.u) else if f.kind = 5 then strOfNums (leS 4 f.u) else strOfNums (venc f.b.size) ++ f.b
def formB (f : Fd) : ByteArray := headB f ++ contB f
/-- A field that Go's values can hold. -/
structure FdOk (f : Fd) : Prop where
  n0 : -9223372036854775808 ≤ f.num
  n1 : f.num ≤ 9223372036854775807
  k0 : -9223372036854775808 ≤ f.kind
  k1 : f.kind ≤ 9223372036854775807
  u0 : 0 ≤ f.u
  u1 : f.u < B64
  b : f.b.size ≤ 140737488351232
/-- What content leaves. -/
def ContIs (f : Fd) (w : World) (e : Ending) (w' : World) : Prop := ∃ c ok, e = .returned (.tuple #[.string c, .bool ok]) ∧ (ok = true → GoodF f ∧ c = contB f) ∧ (ok = false → ¬ GoodF f) ∧ Below w.heap.size w w'
theorem cont_ret {f : Fd} {w w' : World} {c : ByteArray} {ok : Bool} (hb : Below w.heap.size w w') (h : ok = true → GoodF f ∧ c = contB f) (g : ok = false → ¬ GoodF f) : ContIs f w (.returned (.tuple #[.string c, .bool ok])) w' :=
  ⟨c, ok, rfl, h, g, hb⟩
theorem empty_ne {b : ByteArray} (h : b ≠ ⟨#[]⟩) : b.toList.isEmpty = false := by
  rw [ByteArray.toList_eq]
  cases hl : b.data.toList with
  | nil =>
    refine absurd ?_ h
    apply ByteArray.ext
    apply Array.toList_inj.1
    rw [hl]
  | cons _ _ => rfl
theorem num_cases (num : Int) (b : ByteArray) : num < 1 ∨ 536870911 < num ∨ (1 ≤ num ∧ num ≤ 536870911 ∧ b ≠ ⟨#[]⟩) ∨ (1 ≤ num ∧ num ≤ 536870911 ∧ b = ⟨#[]⟩) := by
  by_cases h1 : num < 1
  · exact .inl h1
  · by_cases h2 : 536870911 < num
    · exact .inr (.inl h2)
    · by_cases h3 : b = ⟨#[]⟩
      · exact .inr (.inr (.inr ⟨by omega, by omega, h3⟩))
      · exact .inr (.inr (.inl ⟨by omega, by omega, h3⟩))

set_option maxRecDepth 100000 in
set_option maxHeartbeats 1600000 in
theorem content_0 (num u : Int) (b : ByteArray) (w : World) (h : FdOk ⟨num, 0, u, b⟩) : Calls Try.prog 29 #[(Fd.mk num 0 u b).val] w (ContIs ⟨num, 0, u, b⟩ w) := by
  have h0 := h.u0
  have H1 := Lib.hid h.u1
  dsimp only at h0
  clear h
  unfold Fd.val
  rcases num_cases num b with hn | hn | ⟨hn1, hn2, hb⟩ | ⟨hn1, hn2, rfl⟩
  · go_enter Try.func29, Try.ntmps29
    go_wp2_with fail
    refine (varint_w _ _ h0 H1.out).mono ?_
    rintro e w1 ⟨rfl, hb1⟩
    go_wp2
    go_ret2
    exact cont_ret (((Below.refl _ _).alloc (Nat.le_refl _) _).trans (hb1.mono (by simp))) (fun h => by cases h) (fun _ h => by have := h.1; dsimp only at this; omega)
  · go_enter Try.func29, Try.ntmps29
    go_wp2_with fail
    refine (varint_w _ _ h0 H1.out).mono ?_
    rintro e w1 ⟨rfl, hb1⟩
    go_wp2
    go_ret2
    exact cont_ret (((Below.refl _ _).alloc (Nat.le_refl _) _).trans (hb1.mono (by simp))) (fun h => by cases h) (fun _ h => by have := h.2.1; dsimp only at this; omega)
  · have he := empty_ne hb
    have Hb := Lib.hid hb
    clear hb
    go_enter Try.func29, Try.ntmps29
    go_wp2_with fail
    refine (varint_w _ _ h0 H1.out).mono ?_
    rintro e w1 ⟨rfl, hb1⟩
    go_wp2
    go_ret2
    exact cont_ret (((Below.refl _ _).alloc (Nat.le_refl _) _).trans (hb1.mono (by simp))) (fun h => by cases h) (fun _ h => by rcases h.2.2 with ⟨h, h2⟩ | ⟨h, h2⟩ | ⟨h, h2, _⟩ | ⟨h, _⟩ <;> first | exact Hb.out h2 | (dsimp only at h; omega))
  · go_enter Try.func29, Try.ntmps29
    go_wp2_with fail
    refine (varint_w _ _ h0 H1.out).mono ?_
    rintro e w1 ⟨rfl, hb1⟩
    go_wp2
    go_ret2
    exact cont_ret (((Below.refl _ _).alloc (Nat.le_refl _) _).trans (hb1.mono (by simp))) (fun _ => ⟨⟨hn1, hn2, .inl ⟨rfl, rfl⟩⟩, rfl⟩) (fun h => by cases h)
set_option maxRecDepth 100000 in
set_option maxHeartbeats 1600000 in
theorem content_1 (num u : Int) (b : ByteArray) (w : World) (h : FdOk ⟨num, 1, u, b⟩) : Calls Try.prog 29 #[(Fd.mk num 1 u b).val] w (ContIs ⟨num, 1, u, b⟩ w) := by
  have h0 := h.u0
  have H1 := Lib.hid h.u1
  dsimp only at h0
  clear h
  unfold Fd.val
  have T : ∀ w, Calls Try.prog 35 #[.int .u64 u, .int .i64 8] w fun e w' => e = .returned (.string (strOfNums (leS 8 u))) ∧ Below w.heap.size w w' := fun w => fixed_w u 8 (by omega) w h0 H1.out
  rcases num_cases num b with hn | hn | ⟨hn1, hn2, hb⟩ | ⟨hn1, hn2, rfl⟩
  · go_enter Try.func29, Try.ntmps29
    go_wp2_with fail
    refine (T _).mono ?_
    rintro e w1 ⟨rfl, hb1⟩
    go_wp2
    go_ret2
    exact cont_ret (((Below.refl _ _).alloc (Nat.le_refl _) _).trans (hb1.mono (by simp))) (fun h => by cases h) (fun _ h => by have := h.1; dsimp only at this; omega)
  · go_enter Try.func29, Try.ntmps29
    go_wp2_with fail
    refine (T _).mono ?_
    rintro e w1 ⟨rfl, hb1⟩
    go_wp2
    go_ret2
    exact cont_ret (((Below.refl _ _).alloc (Nat.le_refl _) _).trans (hb1.mono (by simp))) (fun h => by cases h) (fun _ h => by have := h.2.1; dsimp only at this; omega)
  · have he := empty_ne hb
    have Hb := Lib.hid hb
    clear hb
    go_enter Try.func29, Try.ntmps29
    go_wp2_with fail
    refine (T _).mono ?_
    rintro e w1 ⟨rfl, hb1⟩
    go_wp2
    go_ret2
    exact cont_ret (((Below.refl _ _).alloc (Nat.le_refl _) _).trans (hb1.mono (by simp))) (fun h => by cases h) (fun _ h => by rcases h.2.2 with ⟨h, h2⟩ | ⟨h, h2⟩ | ⟨h, h2, _⟩ | ⟨h, _⟩ <;> first | exact Hb.out h2 | (dsimp only at h; omega))
  · go_enter Try.func29, Try.ntmps29
    go_wp2_with fail
    refine (T _).mono ?_
    rintro e w1 ⟨rfl, hb1⟩
    go_wp2
    go_ret2
    exact cont_ret (((Below.refl _ _).alloc (Nat.le_refl _) _).trans (hb1.mono (by simp))) (fun _ => ⟨⟨hn1, hn2, .inr (.inl ⟨rfl, rfl⟩)⟩, rfl⟩) (fun h => by cases h)
end Go.Proofs.Ytpnieegaemfffaa
