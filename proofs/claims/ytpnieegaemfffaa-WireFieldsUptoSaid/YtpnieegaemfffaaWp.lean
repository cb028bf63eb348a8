/- The walks: the numbers of a packed text. -/
import Derived.Test.YtpnieegaemfffaaMu
namespace Go.Proofs.Ytpnieegaemfffaa
open Go.RowKit

def pgo (s : ByteArray) : Nat → Nat → Option (List Int)
  | 0, p => if p < s.size then none else some []
  | f + 1, p => if p < s.size then (tk s p).bind fun r => (pgo s f r.2).map (r.1 :: ·) else some []
/-- The numbers from a place on. -/
def packS (s : ByteArray) (p : Nat) : Option (List Int) := pgo s (s.size - p) p
theorem pgo_fuel (s : ByteArray) : ∀ f p, s.size - p ≤ f → pgo s f p = packS s p := by
  intro f
  induction f using Nat.strongRecOn with
  | ind f ih =>
    intro p hp
    unfold packS
    by_cases hlt : p < s.size
    · obtain ⟨k, hk⟩ : ∃ k, s.size - p = k + 1 := ⟨s.size - p - 1, by omega⟩
      obtain ⟨g, rfl⟩ : ∃ g, f = g + 1 := ⟨f - 1, by omega⟩
      rw [hk]
      simp only [pgo, if_pos hlt]
      cases e : tk s p with
      | none => rfl
      | some r =>
        have hb := tk_bd (show tk s p = some (r.1, r.2) by rw [e])
        simp only [Option.bind_some]
        rw [ih g (by omega) r.2 (by omega)]
        by_cases hkf : k < g + 1
        · rw [ih k hkf r.2 (by omega)]
        · rw [show k = g by omega, ih g (by omega) r.2 (by omega)]
    · have e : s.size - p = 0 := by omega
      rw [e]
      cases f with
      | zero => rfl
      | succ f => simp [pgo, hlt]
theorem pack_end {s : ByteArray} {p : Nat} (h : ¬ p < s.size) : packS s p = some [] := by
  unfold packS
  rw [show s.size - p = 0 by omega]
  simp [pgo, h]
theorem pack_bad {s : ByteArray} {p : Nat} (h : p < s.size) (hf : tk s p = none) : packS s p = none := by
  unfold packS
  rw [show s.size - p = (s.size - p - 1) + 1 by omega]
  simp [pgo, h, hf]
theorem pack_step {s : ByteArray} {p : Nat} (h : p < s.size) {f : Int} {n : Nat} (hf : tk s p = some (f, n)) : packS s p = (packS s n).map (f :: ·) := by
  conv => lhs; unfold packS
  rw [show s.size - p = (s.size - p - 1) + 1 by omega]
  simp only [pgo, if_pos h, hf, Option.bind_some]
  have := tk_bd hf
  rw [pgo_fuel s (s.size - p - 1) n (by omega)]
theorem pack_more {s : ByteArray} {p : Nat} {l : List Int} (h : p < s.size) {f : Int} {n : Nat} (hf : tk s p = some (f, n)) (hr : (packS s p).map (l ++ ·) = packS s 0) : (packS s n).map ((l ++ [f]) ++ ·) = packS s 0 := by
  rw [← hr, pack_step h hf, Option.map_map]
  congr 1
  funext x
  simp
/-- What the packed numbers of any bytes are: two ways. -/
def PkIs (s : ByteArray) (l : List Int) (err : Int) : Prop := (packS s 0 = none ∧ l = [] ∧ err = 3) ∨ (packS s 0 = some l ∧ err = 0)
theorem pkIs_any (s : ByteArray) : ∃ l err, PkIs s l err := by
  cases e : packS s 0 with
  | none => exact ⟨_, _, .inl ⟨e, rfl, rfl⟩⟩
  | some l => exact ⟨_, _, .inr ⟨e, rfl⟩⟩
theorem take_ok (s : ByteArray) (p : Nat) (w : World) (hs : s.size ≤ 140737488351232) (hp : p ≤ s.size) {u : Int} {n : Nat} (h : tk s p = some (u, n)) :
    Calls Try.prog 24 #[.string s, .int .i64 p] w fun e w' => e = .returned (.tuple #[.int .u64 u, .int .i64 (n : Int), .bool true]) ∧ w = w' := by
  refine (take_any s p w hs hp).mono ?_
  rintro e w' ⟨⟨u', n', h1, h2⟩ | ⟨h1, h2⟩, h3⟩
  · rw [h] at h1; cases h1; exact ⟨h2, h3⟩
  · rw [h] at h1; cases h1
theorem take_no (s : ByteArray) (p : Nat) (w : World) (hs : s.size ≤ 140737488351232) (hp : p ≤ s.size) (h : tk s p = none) :
    Calls Try.prog 24 #[.string s, .int .i64 p] w fun e w' => e = .returned (.tuple #[.int .u64 0, .int .i64 0, .bool false]) ∧ w = w' := by
  refine (take_any s p w hs hp).mono ?_
  rintro e w' ⟨⟨u', n', h1, h2⟩ | ⟨h1, h2⟩, h3⟩
  · rw [h] at h1; cases h1
  · exact ⟨h2, h3⟩

set_option maxRecDepth 100000 in
set_option maxHeartbeats 1600000 in
theorem rpacked_any (s : ByteArray) (w : World) (hs : s.size ≤ 16777216) (l : List Int) (err : Int) (h : PkIs s l err) :
    Calls Try.prog 18 #[.string s] w (LstU w l err) := by
  obtain ⟨i0, hi, hz0, hz1, hz2⟩ := info_parts Try.info22
  have H := Lib.hid h
  clear h
  go_enter Try.func18, Try.ntmps18
  go_wp2_with fail
  go_loopw [4, 5] (fun v i wr => ∃ p : Nat, ∃ x : List Int, p ≤ s.size ∧ i = .int .i64 p ∧ x.length ≤ p ∧ (packS s p).map (x ++ ·) = packS s 0 ∧ OwnU wr w.heap.size v x ∧ Below w.heap.size w wr) (fun _ i _ => s.size - (intOf i).toNat)
  case atStart => exact ⟨0, [], by omega, rfl, by simp, by simp, ownU_nil _ _, Below.refl _ _⟩
  case round =>
    obtain ⟨p, x, hp, rfl, hxl, hr, ho, hb⟩ := hrel
    have Hr := Lib.hid hr
    have hsz := hb.size
    clear hr
    by_cases hlt : p < s.size
    · cases hf : tk s p with
      | none =>
        have T := take_no s p wr (by omega) hp hf
        have He : Hid (l = [] ∧ err = 3) := by
          have e0 := Hr.out
          rw [pack_bad hlt hf] at e0
          rcases H.out with ⟨_, h⟩ | ⟨h, _⟩
          · exact h
          · rw [← e0] at h; simp at h
        clear hf
        go_wp2_with fail
        refine T.mono ?_
        rintro e w1 ⟨rfl, rfl⟩
        clear T
        go_wp2
        go_ret2
        obtain ⟨rfl, rfl⟩ := He.out
        exact lstU_ret (ownU_nil _ _) rfl hb rfl rfl
      | some r =>
        obtain ⟨u, n⟩ := r
        have T := take_ok s p wr (by omega) hp hf
        have hbd := tk_bd hf
        have Hn := Lib.hid hbd.2.2
        have Hmore := Lib.hid (pack_more hlt hf Hr.out)
        clear hf hbd
        go_wp2_with fail
        refine T.mono ?_
        rintro e w1 ⟨rfl, rfl⟩
        clear T
        go_wp2_with (at_builtin; refine wpList_append_u1 _ u rfl (.tmp 22) (.tmp 24) 36 rfl i0 _ rfl Try.underlying36 hi hz0 hz1 hz2 w.heap.size _ x rfl (ho.alloc _) wr.heap.size rfl (heap_alloc_new wr _) (by omega) (by simp; omega) ?_; intro v' w2 ho2 hg2)
        go_roundw
        case rel => exact ⟨n, x ++ [u], Hn.out.2, rfl, by have := Hn.out.1; simp; omega, Hmore.out, ho2, (ho.alloc _).grown (hb.alloc (by omega) _) hg2 (by simp; omega)⟩
        case measure => have := Hn.out; simp [intOf]; omega
    · have He : Hid (x = l ∧ 0 = err) := by
        have e0 := Hr.out
        rw [pack_end hlt] at e0
        rcases H.out with ⟨h, _⟩ | ⟨h, rfl⟩
        · rw [← e0] at h; simp at h
        · rw [← e0] at h; simp at h; exact ⟨h, rfl⟩
      go_wp2
      obtain ⟨A, c, rfl⟩ := ho.form
      go_ret2
      exact lstU_ret ho rfl hb He.out.1 He.out.2
end Go.Proofs.Ytpnieegaemfffaa
