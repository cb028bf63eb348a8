/- The walks: the cursor. -/
import Derived.Test.YtpnieegaemfffaaWa
import Derived.Deep.RegionWith
namespace Go.Proofs.Ytpnieegaemfffaa
open Go.RowKit

/-- Block b is a cursor over s at p. -/
def Cur (w : World) (b : Nat) (s : ByteArray) (p : Nat) : Prop := w.heap[b]? = some (.cells #[.string s, .int .i64 (p : Int)] 45 (0, 0))
/-- Of what was there block b alone may have turned. -/
structure Only (b : Nat) (w w' : World) : Prop where
  os : w'.os = w.os
  tape : w'.tape = w.tape
  output : w'.output = w.output
  size : w.heap.size ≤ w'.heap.size
  block : ∀ k, k < w.heap.size → k ≠ b → w'.heap[k]? = w.heap[k]?
theorem Only.refl (b : Nat) (w : World) : Only b w w := ⟨rfl, rfl, rfl, Nat.le_refl _, fun _ _ _ => rfl⟩
theorem Only.trans {b : Nat} {x y z : World} (h : Only b x y) (g : Only b y z) : Only b x z :=
  ⟨g.os.trans h.os, g.tape.trans h.tape, g.output.trans h.output, Nat.le_trans h.size g.size, fun k hk hb => (g.block k (by have := h.size; omega) hb).trans (h.block k hk hb)⟩
theorem Only.drewN {b : Nat} {x y : World} (h : Only b x y) (q : Nat) : Only b x (y.drewN q) := ⟨h.os, h.tape, h.output, h.size, h.block⟩
theorem Only.drew {b : Nat} {x y : World} (h : Only b x y) : Only b x y.drew := ⟨h.os, h.tape, h.output, h.size, h.block⟩
theorem Only.set_ {b : Nat} {x y : World} (h : Only b x y) (i : Nat) (u : Value) : Only b x (y.setCell ⟨b, i, none⟩ u) :=
  h.trans ⟨rfl, rfl, rfl, by simp [World.setCell], fun k _ hb => Below.heap_setCell _ _ _ _ hb⟩
theorem Only.alloc {b : Nat} {x y : World} (h : Only b x y) (o : Obj) : Only b x (y.alloc o) :=
  h.trans ⟨rfl, rfl, rfl, by simp, fun k hk _ => Below.heap_alloc _ _ _ hk⟩
theorem Only.new_ {b : Nat} {x y : World} (h : Only b x y) {a : Addr} (ha : x.heap.size ≤ a.block) (u : Value) : Only b x (y.setCell a u) :=
  ⟨h.os, h.tape, h.output, by have := h.size; simp [World.setCell]; omega, fun k hk hb => (Below.heap_setCell _ _ _ _ (by omega)).trans (h.block k hk hb)⟩
theorem Only.below {b : Nat} {x y : World} (h : Only b x y) {B : Nat} (hb : B ≤ b) (hB : B ≤ x.heap.size) : Below B x y :=
  ⟨h.os, h.tape, h.output, h.size, fun k hk => h.block k (by omega) (by omega)⟩
theorem Cur.lt {w : World} {b p : Nat} {s : ByteArray} (h : Cur w b s p) : b < w.heap.size := (Array.getElem?_eq_some_iff.1 h).1
theorem Cur.txt {w : World} {b p : Nat} {s : ByteArray} (h : Cur w b s p) : w.cell? ⟨b, 0, none⟩ = some (.string s) := cell_of_row w b 0 _ 45 (0, 0) h
theorem Cur.at_ {w : World} {b p : Nat} {s : ByteArray} (h : Cur w b s p) : w.cell? ⟨b, 1, none⟩ = some (.int .i64 (p : Int)) := cell_of_row w b 1 _ 45 (0, 0) h
theorem Cur.free {w : World} {b p : Nat} {s : ByteArray} (h : Cur w b s p) (i : Nat) : w.frozen? ⟨b, i, none⟩ = false := by
  unfold Cur at h
  simp [World.frozen?, h]
theorem Cur.drewN {w : World} {b p : Nat} {s : ByteArray} (h : Cur w b s p) (q : Nat) : Cur (w.drewN q) b s p := h
theorem Cur.set_ {w : World} {b p : Nat} {s : ByteArray} (h : Cur w b s p) (n : Nat) (x : Int) (hx : x = (n : Int)) : Cur (w.setCell ⟨b, 1, none⟩ (.int .i64 x)) b s n := by
  subst hx
  unfold Cur at *
  simp [World.setCell, Array.getElem?_modify, h]
theorem Cur.far {w : World} {b p : Nat} {s : ByteArray} (h : Cur w b s p) {a : Addr} (ha : b ≠ a.block) (u : Value) : Cur (w.setCell a u) b s p := (Below.heap_setCell _ _ _ _ ha).trans h
theorem Cur.alloc {w : World} {b p : Nat} {s : ByteArray} (h : Cur w b s p) (o : Obj) : Cur (w.alloc o) b s p := (Below.heap_alloc _ _ _ h.lt).trans h
/-- What a malformed text panics with. -/
def bad : List PanicEntry := [{ v := .iface 58 (.agg #[]), recovered := false }]

theorem orw (u x : Int) (k : Nat) (hk : k ≤ 9) (h0 : 0 ≤ u) (h1 : u < two k) (hx : 0 ≤ x * two k) (hx1 : x * two k < B64) : bits .or .u64 u (IntKind.u64.wrap (x * 2 ^ (7 * k))) = u + x * two k := by
  have e : (2 : Int) ^ (7 * k) = two k := rfl
  rw [e, IntWalk.u64_in _ ⟨hx, by unfold B64 at hx1; omega⟩]
  exact bits_join_low .u64 64 (by decide) wraps_u64 (7 * k) u _ h0 (by rw [← e] at h1; exact h1) (by have := two_le k 9 hk; rw [two_9] at this; omega) hx (by rw [← e]; exact Int.mul_emod_left _ _) (by unfold B64 at hx1; omega)

def VarPost (s : ByteArray) (p b : Nat) (w : World) (e : Ending) (w' : World) : Prop :=
  Only b w w' ∧ ((∃ u n, tk s p = some (u, n) ∧ e = .returned (.int .u64 u) ∧ Cur w' b s n) ∨ (tk s p = none ∧ e = .panicked bad))

set_option maxRecDepth 100000 in
set_option maxHeartbeats 1600000 in
theorem varint_any (s : ByteArray) (p b : Nat) (w : World) (hs : s.size ≤ 140737488351232) (hp : p ≤ s.size) (hc : Cur w b s p) :
    Calls Try.prog 23 #[.pointer (some ⟨b, 0, none⟩)] w (VarPost s p b w) := by
  go_enter Try.func23, Try.ntmps23
  go_wp2_with fail
  go_loopw [3, 4] (fun v i wr => ∃ k : Nat, ∃ u : Int, k ≤ 10 ∧ i = .int .i64 (7 * (k : Int)) ∧ v = .int .u64 u ∧ 0 ≤ u ∧ u < two k ∧ tkGo s p (10 - k) k u = tk s p ∧ Cur wr b s (p + k) ∧ Only b w wr) (fun _ i _ => 70 - (intOf i).toNat)
  case atStart => exact ⟨0, 0, by omega, rfl, rfl, by omega, by decide, rfl, hc, Only.refl _ _⟩
  case round =>
    obtain ⟨k, u, hk, rfl, rfl, u0, u1, hgo, hcur, hon⟩ := hrel
    have Hgo := Lib.hid hgo
    have Hu1 := Lib.hid u1
    have Hcur := Lib.hid hcur
    obtain ⟨m, hm⟩ : ∃ m, m = p + k := ⟨_, rfl⟩
    rw [← hm] at hcur
    have c0 := hcur.txt
    have c1 := hcur.at_
    have f1 := hcur.free 1
    have Hm := Lib.hid hm
    have Hc2 := Lib.hid hcur
    have hm1 : m ≤ p + 10 := by omega
    clear hgo u1 hcur hm hc
    by_cases h10 : k = 10
    · have Hn := Lib.hid (show tk s p = none by rw [← Hgo.out, h10]; rfl)
      have hk10 : 70 ≤ 7 * (k : Int) := by omega
      clear h10
      go_wp2
      exact ⟨rfl, hon, .inr ⟨Hn.out, rfl⟩⟩
    · have hk9 : k ≤ 9 := by omega
      clear hk h10
      by_cases hsz : m < s.size
      · have hb := bt_bd s m
        have hmask := mask127 hb.1 hb.2
        have hidx : ∀ w, (Instr.index 9 (.string s) (.int .i64 (m : Int))).run Try.prog w = .ok (.int .u8 (bt s m)) w := fun w => idx_str s m hsz w _ rfl
        have hlt : ¬ (s.size : Int) ≤ m := by omega
        have hm0 : (0 : Int) ≤ m := by omega
        have hm2 : (m : Int) < s.size := by omega
        by_cases h9 : k = 9 ∧ 1 < bt s m
        · have Hn := Lib.hid (show tk s p = none by rw [← Hgo.out]; exact tkGo_stop s p k u hk9 (.inr (by rw [← Hm.out]; exact h9)))
          have q1 : (7 * (k : Int) == 63) = true := by simp; omega
          have q2 : 1 < bt s m := h9.2
          clear h9
          go_wp2
          go_quiet (fail)
          go_wp2
          go_quiet (fail)
          go_wp2
          exact ⟨rfl, ((hon.drewN _).set_ _ _), .inr ⟨Hn.out, rfl⟩⟩
        · have H9 := Lib.hid h9
          have q : ((7 * (k : Int) == 63) = true ∧ ¬ 1 < bt s m) ∨ (7 * (k : Int) == 63) = false := by
            by_cases e : k = 9
            · exact .inl ⟨by simp [e], fun h => h9 ⟨e, h⟩⟩
            · exact .inr (by simp; omega)
          clear h9
          have Hpart := Lib.hid (show 0 ≤ bt s m % 128 * two k ∧ bt s m % 128 * two k < B64 by have := part_bd s p k u hk9 u0 Hu1.out (by rw [← Hm.out]; exact H9.out); rw [← Hm.out] at this; exact this)
          have Hnx := Lib.hid (show nx s p k u = u + bt s m % 128 * two k by unfold nx; rw [← Hm.out])
          have Hw := Lib.hid (show bits .or .u64 u (IntKind.u64.wrap (bt s m % 128 * 2 ^ (7 * k))) = nx s p k u by rw [Hnx.out]; exact orw u _ k hk9 u0 Hu1.out Hpart.out.1 Hpart.out.2)
          have Hnb := Lib.hid (nx_bd s p k u u0 Hu1.out)
          have Hset := Lib.hid (show ∀ q, Cur ((wr.drewN q).setCell ⟨b, 1, none⟩ (.int .i64 ((m : Int) + 1))) b s (p + (k + 1)) from fun q => (Hc2.out.drewN q).set_ _ _ (by have := Hm.out; omega))
          by_cases hl : bt s m < 128
          · have Hn := Lib.hid (show tk s p = some (nx s p k u, p + (k + 1)) by rw [← Hgo.out]; exact tkGo_last s p k u hk9 (by rw [← Hm.out]; exact hsz) (by rw [← Hm.out]; exact H9.out) (by rw [← Hm.out]; exact hl))
            rcases q with ⟨q1, q2⟩ | q1
            all_goals
              go_wp2
              go_quiet (fail)
              go_wp2
              go_quiet (fail)
              go_wp2
              go_ret
              exact ⟨(hon.drewN _).set_ _ _, .inl ⟨_, _, Hn.out, by rw [← Hw.out]; rfl, Hset.out _⟩⟩
          · have Hn := Lib.hid (show tkGo s p (10 - (k + 1)) (k + 1) (nx s p k u) = tk s p by rw [← Hgo.out]; exact (tkGo_more s p k u hk9 (by rw [← Hm.out]; exact hsz) (by rw [← Hm.out]; exact H9.out) (by rw [← Hm.out]; exact hl)).symm)
            rcases q with ⟨q1, q2⟩ | q1
            · omega
            · go_wp2
              go_quiet (fail)
              go_wp2
              go_quiet (fail)
              go_wp2
              go_roundw
              case rel => exact ⟨k + 1, nx s p k u, by omega, by go_num, by rw [Hw.out], Hnb.out.1, Hnb.out.2, Hn.out, Hset.out _, (hon.drewN _).set_ _ _⟩
              case measure => simp [intOf]; omega
      · have Hn := Lib.hid (show tk s p = none by rw [← Hgo.out]; exact tkGo_stop s p k u hk9 (.inl (by rw [← Hm.out]; omega)))
        have hge : (s.size : Int) ≤ m := by omega
        go_wp2
        go_quiet (fail)
        go_wp2
        exact ⟨rfl, hon.drewN _, .inr ⟨Hn.out, rfl⟩⟩
end Go.Proofs.Ytpnieegaemfffaa
