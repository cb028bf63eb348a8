/- The walks: numbers read. The walks: the cursor. The walks: numbers written. The walks: bytes and fixed numbers off the cursor. The walks: a field off the cursor. -/
import Derived.Test.YtkcnpnnflbibiaaRows
import Derived.Test.YtkcnpnnflbibiaaZb
import Derived.WalkKit
import Derived.WalkSpells
import Derived.WalkLawsBesides
import Derived.Lib.Hide
import Derived.Lib.EndianBits
import Derived.Deep.QuietTactic
import Derived.BigQuiet
import Derived.Deep.RegionWith
import Derived.Laws.BytesArg
set_option linter.unusedVariables false
/- The walks: numbers read. -/
namespace Go.Proofs.Ytkcnpnnflbibiaa
open Go.RowKit

theorem mask127 {c : Int} (h₀ : 0 ≤ c) (h₁ : c ≤ 255) : bits .and .u8 c 127 = c % 128 := bits_mask .u8 8 (by decide) wraps_u8 7 (by decide) c h₀ (by omega)

theorem idx_str (s : ByteArray) (k : Nat) (h : k < s.size) (w : World) (i : Int) (hi : i = (k : Int)) : (Instr.index 9 (.string s) (.int .i64 i)).run Try.prog w = .ok (.int .u8 (bt s k)) w := by
  subst hi
  rw [run_index_string (P := Try.prog) w 9 s .i64 (k : Int) Try.underlying9, dif_pos ⟨by omega, by omega⟩]
  congr 2
  rw [← bt_get s k h]
  rfl
theorem nxw (s : ByteArray) (p i : Nat) (u : Int) (hi : i ≤ 9) (h0 : 0 ≤ u) (h1 : u < two i) (h9 : ¬ (i = 9 ∧ 1 < bt s (p + i))) :
    IntKind.u64.wrap (u + IntKind.u64.wrap (bt s (p + i) % 128 * 2 ^ (7 * i))) = nx s p i u := by
  obtain ⟨a, b⟩ := nx_64 s p i u hi h0 h1 h9
  obtain ⟨c, d⟩ := part_bd s p i u hi h0 h1 h9
  unfold nx two B64 at *
  rw [IntWalk.u64_in _ ⟨c, by omega⟩, IntWalk.u64_in _ ⟨a, by omega⟩]

def TkPost (s : ByteArray) (p : Nat) (e : Ending) : Prop :=
  (∃ u n, tk s p = some (u, n) ∧ e = .returned (.tuple #[.int .u64 u, .int .i64 (n : Int), .bool true])) ∨
  (tk s p = none ∧ e = .returned (.tuple #[.int .u64 0, .int .i64 0, .bool false]))
theorem tkGo_stop (s : ByteArray) (p k : Nat) (u : Int) (hk : k ≤ 9) (h : s.size ≤ p + k ∨ (k = 9 ∧ 1 < bt s (p + k))) : tkGo s p (10 - k) k u = none := by
  rw [show 10 - k = (9 - k) + 1 by omega, tkGo]
  split
  · rfl
  · next hs =>
    rcases h with h | h
    · omega
    · rw [if_pos h]
theorem tkGo_last (s : ByteArray) (p k : Nat) (u : Int) (hk : k ≤ 9) (h : p + k < s.size) (h9 : ¬ (k = 9 ∧ 1 < bt s (p + k))) (hl : bt s (p + k) < 128) : tkGo s p (10 - k) k u = some (nx s p k u, p + k + 1) := by
  rw [show 10 - k = (9 - k) + 1 by omega, tkGo, if_neg (by omega), if_neg h9, if_pos hl]
theorem tkGo_more (s : ByteArray) (p k : Nat) (u : Int) (hk : k ≤ 9) (h : p + k < s.size) (h9 : ¬ (k = 9 ∧ 1 < bt s (p + k))) (hl : ¬ bt s (p + k) < 128) : tkGo s p (10 - k) k u = tkGo s p (10 - (k + 1)) (k + 1) (nx s p k u) := by
  rw [show 10 - k = (9 - k) + 1 by omega, tkGo, if_neg (by omega), if_neg h9, if_neg hl, show 9 - k = 10 - (k + 1) by omega]
theorem three_ret {a b : Int} {c : Bool} {x y : Int} {z : Bool} (h1 : a = x) (h2 : b = y) (h3 : c = z) : Ending.returned (.tuple #[.int .u64 a, .int .i64 b, .bool c]) = .returned (.tuple #[.int .u64 x, .int .i64 y, .bool z]) := by
  rw [h1, h2, h3]

set_option maxRecDepth 100000 in
set_option maxHeartbeats 800000 in
theorem take_any (s : ByteArray) (p : Nat) (w : World) (hs : s.size ≤ 140737488351232) (hp : p ≤ s.size) :
    Calls Try.prog 57 #[.string s, .int .i64 p] w fun e w' => TkPost s p e ∧ w = w' := by
  go_enter Try.func57, Try.ntmps57
  go_wp2_with fail
  go_loop [7, 8] (fun v i => ∃ k : Nat, ∃ u : Int, k ≤ 10 ∧ i = .int .i64 k ∧ v = .int .u64 u ∧ 0 ≤ u ∧ u < two k ∧ tkGo s p (10 - k) k u = tk s p) (fun _ i => 10 - (intOf i).toNat)
  case atStart => exact ⟨0, 0, by omega, rfl, rfl, by omega, by decide, rfl⟩
  case round =>
    obtain ⟨k, u, hk, rfl, rfl, u0, u1, hgo⟩ := hrel
    have Hgo := Lib.hid hgo
    have Hu1 := Lib.hid u1
    clear hgo u1
    by_cases h10 : k = 10
    · have Hn := Lib.hid (show tk s p = none by rw [← Hgo.out, h10]; rfl)
      have hk10 : 10 ≤ k := by omega
      clear h10
      go_wp2
      go_ret3
      exact ⟨.inr ⟨Hn.out, rfl⟩, rfl⟩
    · have hk9 : k ≤ 9 := by omega
      clear hk h10
      by_cases hsz : p + k < s.size
      · have hb := bt_bd s (p + k)
        have hidx : ∀ w, (Instr.index 9 (.string s) (.int .i64 ((p : Int) + (k : Int)))).run Try.prog w = .ok (.int .u8 (bt s (p + k))) w := by
          intro w
          exact idx_str s (p + k) hsz w _ (by omega)
        by_cases h9 : k = 9 ∧ 1 < bt s (p + k)
        · have Hn := Lib.hid (show tk s p = none by rw [← Hgo.out]; exact tkGo_stop s p k u hk9 (.inr h9))
          have q1 : ((k : Int) == 9) = true := by simp; omega
          have q2 : 1 < bt s (p + k) := h9.2
          clear h9
          go_wp2
          go_ret3
          exact ⟨.inr ⟨Hn.out, rfl⟩, rfl⟩
        · have H9 := Lib.hid h9
          have q : (((k : Int) == 9) = true ∧ ¬ 1 < bt s (p + k)) ∨ ((k : Int) == 9) = false := by
            by_cases e : k = 9
            · exact .inl ⟨by simp [e], fun h => h9 ⟨e, h⟩⟩
            · exact .inr (by simp; omega)
          clear h9
          have Hw := Lib.hid (nxw s p k u hk9 u0 Hu1.out H9.out)
          have Hnb := Lib.hid (nx_bd s p k u u0 Hu1.out)
          by_cases hl : bt s (p + k) < 128
          · have Hn := Lib.hid (show tk s p = some (nx s p k u, p + k + 1) by rw [← Hgo.out]; exact tkGo_last s p k u hk9 hsz H9.out hl)
            rcases q with ⟨q1, q2⟩ | q1
            all_goals
              go_wp2
              go_ret3
              exact ⟨.inl ⟨_, _, Hn.out, three_ret Hw.out (by omega) rfl⟩, rfl⟩
          · have Hn := Lib.hid (show tkGo s p (10 - (k + 1)) (k + 1) (nx s p k u) = tk s p by rw [← Hgo.out]; exact (tkGo_more s p k u hk9 hsz H9.out hl).symm)
            rcases q with ⟨q1, q2⟩ | q1
            · omega
            · go_wp2
              go_round
              case rel => exact ⟨k + 1, nx s p k u, by omega, by go_num, by rw [Hw.out], Hnb.out.1, Hnb.out.2, Hn.out⟩
              case measure => simp [intOf]; omega
      · have Hn := Lib.hid (show tk s p = none by rw [← Hgo.out]; exact tkGo_stop s p k u hk9 (.inl (by omega)))
        go_wp2
        go_ret3
        exact ⟨.inr ⟨Hn.out, rfl⟩, rfl⟩
end Go.Proofs.Ytkcnpnnflbibiaa

/- The walks: the cursor. -/
namespace Go.Proofs.Ytkcnpnnflbibiaa
open Go.RowKit

/-- Block b is a cursor over s at p. -/
def Cur (w : World) (b : Nat) (s : ByteArray) (p : Nat) : Prop := w.heap[b]? = some (.cells #[.string s, .int .i64 (p : Int)] 126 (0, 0))
/-- Of what was there block b alone may have turned. -/
structure Only (b : Nat) (w w' : World) : Prop where
  os : w'.os = w.os
  tape : w'.tape = w.tape
  output : w'.output = w.output
  size : w.heap.size ≤ w'.heap.size
  block : ∀ k, k < w.heap.size → k ≠ b → w'.heap[k]? = w.heap[k]?
theorem Only.refl (b : Nat) (w : World) : Only b w w := ⟨rfl, rfl, rfl, Nat.le_refl _, fun _ _ _ => rfl⟩
theorem Only.trans {b : Nat} {x y z : World} (h : Only b x y) (g : Only b y z) : Only b x z :=
  ⟨g.os.trans h.os, g.tape.trans h.tape, g.output.trans h.output, Nat.le_trans h.size g.size, fun k hk hb => (g.block k (by have := h.size; omega) hb).trans (h.block k hk hb)⟩
theorem Only.drewN {b : Nat} {x y : World} (h : Only b x y) (q : Nat) : Only b x (y.drewN q) := ⟨h.os, h.tape, h.output, h.size, h.block⟩
theorem Only.drew {b : Nat} {x y : World} (h : Only b x y) : Only b x y.drew := ⟨h.os, h.tape, h.output, h.size, h.block⟩
theorem Only.set_ {b : Nat} {x y : World} (h : Only b x y) (i : Nat) (u : Value) : Only b x (y.setCell ⟨b, i, none⟩ u) :=
  h.trans ⟨rfl, rfl, rfl, by simp [World.setCell], fun k _ hb => Below.heap_setCell _ _ _ _ hb⟩
theorem Only.alloc {b : Nat} {x y : World} (h : Only b x y) (o : Obj) : Only b x (y.alloc o) :=
  h.trans ⟨rfl, rfl, rfl, by simp, fun k hk _ => Below.heap_alloc _ _ _ hk⟩
theorem Only.new_ {b : Nat} {x y : World} (h : Only b x y) {a : Addr} (ha : x.heap.size ≤ a.block) (u : Value) : Only b x (y.setCell a u) :=
  ⟨h.os, h.tape, h.output, by have := h.size; simp [World.setCell]; omega, fun k hk hb => (Below.heap_setCell _ _ _ _ (by omega)).trans (h.block k hk hb)⟩
theorem Only.below {b : Nat} {x y : World} (h : Only b x y) {B : Nat} (hb : B ≤ b) (hB : B ≤ x.heap.size) : Below B x y :=
  ⟨h.os, h.tape, h.output, h.size, fun k hk => h.block k (by omega) (by omega)⟩
theorem Cur.lt {w : World} {b p : Nat} {s : ByteArray} (h : Cur w b s p) : b < w.heap.size := (Array.getElem?_eq_some_iff.1 h).1
theorem Cur.txt {w : World} {b p : Nat} {s : ByteArray} (h : Cur w b s p) : w.cell? ⟨b, 0, none⟩ = some (.string s) := cell_of_row w b 0 _ 126 (0, 0) h
theorem Cur.at_ {w : World} {b p : Nat} {s : ByteArray} (h : Cur w b s p) : w.cell? ⟨b, 1, none⟩ = some (.int .i64 (p : Int)) := cell_of_row w b 1 _ 126 (0, 0) h
theorem Cur.free {w : World} {b p : Nat} {s : ByteArray} (h : Cur w b s p) (i : Nat) : w.frozen? ⟨b, i, none⟩ = false := by
  unfold Cur at h
  simp [World.frozen?, h]
theorem Cur.drewN {w : World} {b p : Nat} {s : ByteArray} (h : Cur w b s p) (q : Nat) : Cur (w.drewN q) b s p := h
theorem Cur.set_ {w : World} {b p : Nat} {s : ByteArray} (h : Cur w b s p) (n : Nat) (x : Int) (hx : x = (n : Int)) : Cur (w.setCell ⟨b, 1, none⟩ (.int .i64 x)) b s n := by
  subst hx
  unfold Cur at *
  simp [World.setCell, Array.getElem?_modify, h]
theorem Cur.far {w : World} {b p : Nat} {s : ByteArray} (h : Cur w b s p) {a : Addr} (ha : b ≠ a.block) (u : Value) : Cur (w.setCell a u) b s p := (Below.heap_setCell _ _ _ _ ha).trans h
theorem Cur.alloc {w : World} {b p : Nat} {s : ByteArray} (h : Cur w b s p) (o : Obj) : Cur (w.alloc o) b s p := (Below.heap_alloc _ _ _ h.lt).trans h
/-- What a malformed text panics with. -/
def bad : List PanicEntry := [{ v := .iface 137 (.agg #[]), recovered := false }]

theorem orw (u x : Int) (k : Nat) (hk : k ≤ 9) (h0 : 0 ≤ u) (h1 : u < two k) (hx : 0 ≤ x * two k) (hx1 : x * two k < B64) : bits .or .u64 u (IntKind.u64.wrap (x * 2 ^ (7 * k))) = u + x * two k := by
  have e : (2 : Int) ^ (7 * k) = two k := rfl
  rw [e, IntWalk.u64_in _ ⟨hx, by unfold B64 at hx1; omega⟩]
  exact bits_join_low .u64 64 (by decide) wraps_u64 (7 * k) u _ h0 (by rw [← e] at h1; exact h1) (by have := two_le k 9 hk; rw [two_9] at this; omega) hx (by rw [← e]; exact Int.mul_emod_left _ _) (by unfold B64 at hx1; omega)

def VarPost (s : ByteArray) (p b : Nat) (w : World) (e : Ending) (w' : World) : Prop :=
  Only b w w' ∧ ((∃ u n, tk s p = some (u, n) ∧ e = .returned (.int .u64 u) ∧ Cur w' b s n) ∨ (tk s p = none ∧ e = .panicked bad))

set_option maxRecDepth 100000 in
set_option maxHeartbeats 1600000 in
theorem varint_any (s : ByteArray) (p b : Nat) (w : World) (hs : s.size ≤ 140737488351232) (hp : p ≤ s.size) (hc : Cur w b s p) :
    Calls Try.prog 94 #[.pointer (some ⟨b, 0, none⟩)] w (VarPost s p b w) := by
  go_enter Try.func94, Try.ntmps94
  go_wp2_with fail
  go_loopw [3, 4] (fun v i wr => ∃ k : Nat, ∃ u : Int, k ≤ 10 ∧ i = .int .i64 (7 * (k : Int)) ∧ v = .int .u64 u ∧ 0 ≤ u ∧ u < two k ∧ tkGo s p (10 - k) k u = tk s p ∧ Cur wr b s (p + k) ∧ Only b w wr) (fun _ i _ => 70 - (intOf i).toNat)
  case atStart => exact ⟨0, 0, by omega, rfl, rfl, by omega, by decide, rfl, hc, Only.refl _ _⟩
  case round =>
    obtain ⟨k, u, hk, rfl, rfl, u0, u1, hgo, hcur, hon⟩ := hrel
    have Hgo := Lib.hid hgo
    have Hu1 := Lib.hid u1
    have Hcur := Lib.hid hcur
    obtain ⟨m, hm⟩ : ∃ m, m = p + k := ⟨_, rfl⟩
    rw [← hm] at hcur
    have c0 := hcur.txt
    have c1 := hcur.at_
    have f1 := hcur.free 1
    have Hm := Lib.hid hm
    have Hc2 := Lib.hid hcur
    have hm1 : m ≤ p + 10 := by omega
    clear hgo u1 hcur hm hc
    by_cases h10 : k = 10
    · have Hn := Lib.hid (show tk s p = none by rw [← Hgo.out, h10]; rfl)
      have hk10 : 70 ≤ 7 * (k : Int) := by omega
      clear h10
      go_wp2
      exact ⟨rfl, hon, .inr ⟨Hn.out, rfl⟩⟩
    · have hk9 : k ≤ 9 := by omega
      clear hk h10
      by_cases hsz : m < s.size
      · have hb := bt_bd s m
        have hmask := mask127 hb.1 hb.2
        have hidx : ∀ w, (Instr.index 9 (.string s) (.int .i64 (m : Int))).run Try.prog w = .ok (.int .u8 (bt s m)) w := fun w => idx_str s m hsz w _ rfl
        have hlt : ¬ (s.size : Int) ≤ m := by omega
        have hm0 : (0 : Int) ≤ m := by omega
        have hm2 : (m : Int) < s.size := by omega
        by_cases h9 : k = 9 ∧ 1 < bt s m
        · have Hn := Lib.hid (show tk s p = none by rw [← Hgo.out]; exact tkGo_stop s p k u hk9 (.inr (by rw [← Hm.out]; exact h9)))
          have q1 : (7 * (k : Int) == 63) = true := by simp; omega
          have q2 : 1 < bt s m := h9.2
          clear h9
          go_wp2
          go_quiet (fail)
          go_wp2
          go_quiet (fail)
          go_wp2
          exact ⟨rfl, ((hon.drewN _).set_ _ _), .inr ⟨Hn.out, rfl⟩⟩
        · have H9 := Lib.hid h9
          have q : ((7 * (k : Int) == 63) = true ∧ ¬ 1 < bt s m) ∨ (7 * (k : Int) == 63) = false := by
            by_cases e : k = 9
            · exact .inl ⟨by simp [e], fun h => h9 ⟨e, h⟩⟩
            · exact .inr (by simp; omega)
          clear h9
          have Hpart := Lib.hid (show 0 ≤ bt s m % 128 * two k ∧ bt s m % 128 * two k < B64 by have := part_bd s p k u hk9 u0 Hu1.out (by rw [← Hm.out]; exact H9.out); rw [← Hm.out] at this; exact this)
          have Hnx := Lib.hid (show nx s p k u = u + bt s m % 128 * two k by unfold nx; rw [← Hm.out])
          have Hw := Lib.hid (show bits .or .u64 u (IntKind.u64.wrap (bt s m % 128 * 2 ^ (7 * k))) = nx s p k u by rw [Hnx.out]; exact orw u _ k hk9 u0 Hu1.out Hpart.out.1 Hpart.out.2)
          have Hnb := Lib.hid (nx_bd s p k u u0 Hu1.out)
          have Hset := Lib.hid (show ∀ q, Cur ((wr.drewN q).setCell ⟨b, 1, none⟩ (.int .i64 ((m : Int) + 1))) b s (p + (k + 1)) from fun q => (Hc2.out.drewN q).set_ _ _ (by have := Hm.out; omega))
          by_cases hl : bt s m < 128
          · have Hn := Lib.hid (show tk s p = some (nx s p k u, p + (k + 1)) by rw [← Hgo.out]; exact tkGo_last s p k u hk9 (by rw [← Hm.out]; exact hsz) (by rw [← Hm.out]; exact H9.out) (by rw [← Hm.out]; exact hl))
            rcases q with ⟨q1, q2⟩ | q1
            all_goals
              go_wp2
              go_quiet (fail)
              go_wp2
              go_quiet (fail)
              go_wp2
              go_ret
              exact ⟨(hon.drewN _).set_ _ _, .inl ⟨_, _, Hn.out, by rw [← Hw.out]; rfl, Hset.out _⟩⟩
          · have Hn := Lib.hid (show tkGo s p (10 - (k + 1)) (k + 1) (nx s p k u) = tk s p by rw [← Hgo.out]; exact (tkGo_more s p k u hk9 (by rw [← Hm.out]; exact hsz) (by rw [← Hm.out]; exact H9.out) (by rw [← Hm.out]; exact hl)).symm)
            rcases q with ⟨q1, q2⟩ | q1
            · omega
            · go_wp2
              go_quiet (fail)
              go_wp2
              go_quiet (fail)
              go_wp2
              go_roundw
              case rel => exact ⟨k + 1, nx s p k u, by omega, by go_num, by rw [Hw.out], Hnb.out.1, Hnb.out.2, Hn.out, Hset.out _, (hon.drewN _).set_ _ _⟩
              case measure => simp [intOf]; omega
      · have Hn := Lib.hid (show tk s p = none by rw [← Hgo.out]; exact tkGo_stop s p k u hk9 (.inl (by rw [← Hm.out]; omega)))
        have hge : (s.size : Int) ≤ m := by omega
        go_wp2
        go_quiet (fail)
        go_wp2
        exact ⟨rfl, hon.drewN _, .inr ⟨Hn.out, rfl⟩⟩
end Go.Proofs.Ytkcnpnnflbibiaa

/- The walks: numbers written. -/
namespace Go.Proofs.Ytkcnpnnflbibiaa
open Go.RowKit

theorem Try.info5 : (Try.prog.info? 5).map (fun i => (i.zero, i.size, i.bytes)) = some (some (.int .u8 0), 1, 1) := by kernel_rfl

/-- The call's own bytes. -/
def OwnB (w : World) (B : Nat) (v : Value) (l : List Int) : Prop := w.ownsRow B 5 1 v l.length (l.map (Value.int .u8)) ∧ l.length ≤ maxLen
theorem ownB_nil (w : World) (B : Nat) : OwnB w B (.slice none 0 0) [] := ⟨World.ownsRow_nil _ _ _ _, Nat.zero_le _⟩

theorem ownB_form {w : World} {B : Nat} {v : Value} {l : List Int} (h : OwnB w B v l) : ∃ A c, v = .slice A l.length c := by
  rcases h.1.2 with ⟨rfl, hn⟩ | ⟨g, cap, cur, rfl, _⟩
  · exact ⟨none, 0, by rw [hn]⟩
  · exact ⟨_, _, rfl⟩
/-- One byte more. -/
theorem wpList_append_b1 {P : Program} (w0 : World) (x : Int) {ops : Array Oper} {rest : List Oper} {o : Oper} {a : Act} {Q : Exit → Act → World → Prop} (hgd : o.guard = none) (s y : Operand) (t : TypeId)
    (ho : o.op = .call { callee := .builtin .append, args := #[s, y], argTypes := #[t, t] })
    (i : TypeInfo) (ht : P.underlying t = some (.slice 5)) (hi : P.info? 5 = some i) (hz : i.zero = some (.int .u8 0)) (hsize : i.size = 1) (hby : i.bytes = 1)
    (B : Nat) (v : Value) (l : List Int) (hs : a.eval s = v) (hown : OwnB w0 B v l) (hx : a.eval y = .slice (some ⟨w0.heap.size, 0, none⟩) 1 1)
    (hlen : l.length + 1 ≤ 140737488355328) (hbase : B ≤ w0.heap.size)
    (h : ∀ v' w', OwnB w' B v' (l ++ [x]) → (w0.alloc (.cells #[.int .u8 x] 5)).grownBy w' v.ownBlock → wpList P ops Q rest (a.put o.dst v') w') : wpList P ops Q (o :: rest) a (w0.alloc (.cells #[.int .u8 x] 5)) := by
  refine wpList_append_own _ hgd s y t ho B 5 i (.int .u8 0) 1 1 ht hi hz hsize hby rfl (by decide) v l.length (l.map (Value.int .u8)) hs (hown.1.alloc _) ⟨w0.heap.size, 0, none⟩ 1 1 [.int .u8 x] hx rfl ?_ ?_ (by unfold maxLen; omega) (by omega) (by simp; omega) ?_
  · intro j u hj
    match j, hj with
    | 0, hj => simp at hj; subst hj; simp [Addr.add]
  · intro u hu; simp at hu; subst hu; rfl
  · intro v' w' h2 h3 _
    refine h v' w' ⟨?_, by simp; unfold maxLen; omega⟩ h3
    simpa using h2
theorem ownB_below {a w0 w' : World} {x : Int} {B : Nat} {v : Value} {l : List Int} (h : OwnB w0 B v l) (hb : Below B a w0) (hg : (w0.alloc (.cells #[.int .u8 x] 5)).grownBy w' v.ownBlock) (hB : B ≤ w0.heap.size) : Below B a w' :=
  (hb.alloc hB _).grown hg (by simp; omega) fun k hk => (h.1.lt k hk).1
/-- The call's own bytes, as a string. -/
theorem run_string_own {P : Program} (w : World) (src dst : TypeId) (hs : P.underlying src = some (.slice 5)) (he : P.underlying 5 = some (.int .u8)) (hd : P.underlying dst = some .string)
    (B : Nat) (v : Value) (l : List Int) (h : OwnB w B v l) : (convert src dst v).run P w = .ok (.string (strOfNums l)) w := by
  rcases h.1.2 with ⟨rfl, hn⟩ | ⟨g, cap, cur, rfl, _⟩
  · have : l = [] := List.eq_nil_of_length_eq_zero hn
    subst this
    exact run_convert_bytes_nil w src 5 hs he 0 0 dst hd
  · refine run_convert_bytes_arg w src 5 hs he g 0 l.length cap l rfl ?_ dst hd
    intro i hi
    rw [Nat.zero_add, h.1.cellAt i (by omega)]
    simp [hi]

theorem or128 {c : Int} (h₀ : 0 ≤ c) : bits .or .u8 (c % 256) 128 = c % 128 + 128 := by
  have h : c % 256 = c % 128 + 128 * (c / 128 % 2) := by omega
  have h2 : c / 128 % 2 = 0 ∨ c / 128 % 2 = 1 := by omega
  have key : ∀ a : Fin 256, bits .or .u8 (a.val : Int) 128 = (a.val : Int) % 128 + 128 := by decide +kernel
  have := key ⟨(c % 256).toNat, by omega⟩
  simp only at this
  rw [show (((c % 256).toNat : Nat) : Int) = c % 256 by omega] at this
  rw [this]; omega

theorem u64div {y : Int} (d : Int) (h0 : 0 ≤ y) (h1 : y < B64) (hd : 1 ≤ d) : IntKind.u64.wrap (y.tdiv d) = y / d := by
  rw [Int.tdiv_eq_ediv_of_nonneg h0]
  have h2 : 0 ≤ y / d := Int.ediv_nonneg h0 (by omega)
  have h3 : y / d ≤ y := Int.ediv_le_self _ h0
  exact IntWalk.u64_in _ ⟨h2, by unfold B64 at h1; omega⟩
theorem two_64 {y : Int} {f : Nat} (hf : f ≤ 9) (h : y < 2 * two f) : y < B64 := by
  have := two_le f 9 hf
  rw [two_9] at this
  unfold B64; omega

set_option maxRecDepth 100000 in
set_option maxHeartbeats 800000 in
theorem varint_w (u : Int) (w : World) (h0 : 0 ≤ u) (h1 : u < B64) : Calls Try.prog 65 #[.int .u64 u] w fun e w' => e = .returned (.string (strOfNums (venc u))) ∧ Below w.heap.size w w' := by
  obtain ⟨i0, hi, hz0, hz1, hz2⟩ := info_parts Try.info5
  have H1 := Lib.hid h1
  clear h1
  have hcv := fun wx v l B (h : OwnB wx B v l) => run_string_own (P := Try.prog) wx 51 9 Try.underlying51 Try.underlying5 Try.underlying9 B v l h
  have Hcv := Lib.hid hcv
  clear hcv
  go_enter Try.func65, Try.ntmps65
  go_wp2_with fail
  go_loopw [0, 3] (fun x v wr => ∃ y : Int, ∃ l : List Int, ∃ f : Nat, x = .int .u64 y ∧ 0 ≤ y ∧ (f = 0 → y < 128) ∧ f + l.length = 9 ∧ l ++ vencF f y = venc u ∧ y < 2 * two f ∧ OwnB wr w.heap.size v l ∧ Below w.heap.size w wr) (fun x _ _ => (intOf x).toNat)
  case atStart =>
    refine ⟨u, [], 9, rfl, h0, by omega, rfl, rfl, ?_, ownB_nil _ _, Below.refl _ _⟩
    have := H1.out
    rw [two_9]; unfold B64 at this; omega
  case round =>
    obtain ⟨y, l, f, rfl, y0, yf, hfl, hv, hy2, ho, hb⟩ := hrel
    have Hv := Lib.hid hv
    have Hy2 := Lib.hid hy2
    have Hfl := Lib.hid hfl
    have hl9 : l.length ≤ 9 := by omega
    clear hv hy2 hfl
    have hsz := hb.size
    by_cases hy : 128 ≤ y
    · have hf : f ≠ 0 := fun e => by have := yf e; omega
      clear yf
      obtain ⟨f, rfl⟩ := Nat.exists_eq_succ_of_ne_zero hf
      clear hf
      have Hor := Lib.hid (or128 y0)
      go_wp2_with (at_builtin; refine wpList_append_b1 wr _ rfl (.tmp 8) (.tmp 12) 51 rfl i0 Try.underlying51 hi hz0 hz1 hz2 w.heap.size _ l rfl ho rfl (by omega) hsz ?_; intro v' w1 hown hgrow)
      go_roundw
      case rel =>
        refine ⟨y / 128, l ++ [y % 128 + 128], f, by go_num, by omega, ?_, ?_, ?_, ?_, ?_, ownB_below ho hb hgrow hsz⟩
        · intro e
          subst e
          have := Hy2.out
          rw [two_succ, show two 0 = 1 from rfl] at this
          omega
        · have := Hfl.out; simp; omega
        · rw [← Hv.out, vencF_more f y (by omega)]; simp
        · have := Hy2.out
          rw [two_succ] at this
          omega
        · rw [← Hor.out]; exact hown
      case measure => simp [intOf]; omega
    · go_wp2_with (at_builtin; refine wpList_append_b1 wr _ rfl (.tmp 14) (.tmp 17) 51 rfl i0 Try.underlying51 hi hz0 hz1 hz2 w.heap.size _ l rfl ho rfl (by omega) hsz ?_; intro v' w1 hown hgrow; have hc := Hcv.out _ _ _ _ hown; have Hown := Lib.hid hown; clear hown)
      go_ret
      refine ⟨?_, ownB_below ho hb hgrow hsz⟩
      rw [← Hv.out, vencF_stop f y (by omega), show y % 256 = y by omega]
      rfl
set_option maxRecDepth 100000 in
set_option maxHeartbeats 800000 in
theorem rvarint_w (u : Int) (w : World) (h0 : 0 ≤ u) (h1 : u < B64) : Calls Try.prog 50 #[.int .u64 u] w fun e w' => e = .returned (.string (strOfNums (venc u))) ∧ Below w.heap.size w w' := by
  obtain ⟨i0, hi, hz0, hz1, hz2⟩ := info_parts Try.info5
  have H1 := Lib.hid h1
  clear h1
  have hcv := fun wx v l B (h : OwnB wx B v l) => run_string_own (P := Try.prog) wx 51 9 Try.underlying51 Try.underlying5 Try.underlying9 B v l h
  have Hcv := Lib.hid hcv
  clear hcv
  go_enter Try.func50, Try.ntmps50
  go_wp2_with fail
  go_loopw [0, 3] (fun x v wr => ∃ y : Int, ∃ l : List Int, ∃ f : Nat, x = .int .u64 y ∧ 0 ≤ y ∧ (f = 0 → y < 128) ∧ f + l.length = 9 ∧ l ++ vencF f y = venc u ∧ y < 2 * two f ∧ OwnB wr w.heap.size v l ∧ Below w.heap.size w wr) (fun x _ _ => (intOf x).toNat)
  case atStart =>
    refine ⟨u, [], 9, rfl, h0, by omega, rfl, rfl, ?_, ownB_nil _ _, Below.refl _ _⟩
    have := H1.out
    rw [two_9]; unfold B64 at this; omega
  case round =>
    obtain ⟨y, l, f, rfl, y0, yf, hfl, hv, hy2, ho, hb⟩ := hrel
    have Hv := Lib.hid hv
    have Hy2 := Lib.hid hy2
    have Hfl := Lib.hid hfl
    have hl9 : l.length ≤ 9 := by omega
    have hq := u64div 128 y0 (two_64 (by omega) hy2) (by omega)
    clear hv hy2 hfl
    have hsz := hb.size
    by_cases hy : 128 ≤ y
    · have hf : f ≠ 0 := fun e => by have := yf e; omega
      clear yf
      obtain ⟨f, rfl⟩ := Nat.exists_eq_succ_of_ne_zero hf
      clear hf
      go_wp2_with (at_builtin; refine wpList_append_b1 wr _ rfl (.tmp 6) (.tmp 11) 51 rfl i0 Try.underlying51 hi hz0 hz1 hz2 w.heap.size _ l rfl ho rfl (by omega) hsz ?_; intro v' w1 hown hgrow)
      go_roundw
      case rel =>
        refine ⟨y / 128, l ++ [y % 128 + 128], f, by go_num, by omega, ?_, ?_, ?_, ?_, ?_, ownB_below ho hb hgrow hsz⟩
        · intro e
          subst e
          have := Hy2.out
          rw [two_succ, show two 0 = 1 from rfl] at this
          omega
        · have := Hfl.out; simp; omega
        · rw [← Hv.out, vencF_more f y (by omega)]; simp
        · have := Hy2.out
          rw [two_succ] at this
          omega
        · exact hown
      case measure => simp [intOf]; omega
    · go_wp2_with (at_builtin; refine wpList_append_b1 wr _ rfl (.tmp 15) (.tmp 18) 51 rfl i0 Try.underlying51 hi hz0 hz1 hz2 w.heap.size _ l rfl ho rfl (by omega) hsz ?_; intro v' w1 hown hgrow; have hc := Hcv.out _ _ _ _ hown; have Hown := Lib.hid hown; clear hown)
      go_ret
      refine ⟨?_, ownB_below ho hb hgrow hsz⟩
      rw [← Hv.out, vencF_stop f y (by omega), show y % 256 = y by omega]
      rfl
end Go.Proofs.Ytkcnpnnflbibiaa

/- The walks: bytes and fixed numbers off the cursor. -/
namespace Go.Proofs.Ytkcnpnnflbibiaa
open Go.RowKit

set_option maxRecDepth 100000 in
set_option maxHeartbeats 1600000 in
theorem bytes_ok (s : ByteArray) (p b : Nat) (w : World) (hs : s.size ≤ 140737488351232) (hc : Cur w b s p) (n : Nat) (hn : p + n ≤ s.size) :
    Calls Try.prog 96 #[.pointer (some ⟨b, 0, none⟩), .int .u64 (n : Int)] w fun e w' => e = .returned (.string (s.extract p (p + n))) ∧ Cur w' b s (p + n) ∧ Only b w w' := by
  have c0 := hc.txt
  have c1 := hc.at_
  have f1 := hc.free 1
  have Hc := Lib.hid hc
  clear hc
  have hp0 : (0 : Int) ≤ p := by omega
  have hp1 : (p : Int) ≤ s.size := by omega
  have hn0 : (0 : Int) ≤ n := by omega
  have hn1 : (p : Int) + n ≤ s.size := by omega
  have hgt : ¬ (s.size : Int) - p < n := by omega
  go_enter Try.func96, Try.ntmps96
  go_wp2
  go_quiet (fail)
  go_wp2
  go_quiet (fail)
  go_wp2
  go_ret
  exact ⟨rfl, (Hc.out.drewN _).set_ _ _ (by omega), (((Only.refl _ _).drewN _).set_ _ _).drewN _⟩

set_option maxRecDepth 100000 in
set_option maxHeartbeats 1600000 in
theorem bytes_bad (s : ByteArray) (p b : Nat) (w : World) (hs : s.size ≤ 140737488351232) (hp : p ≤ s.size) (hc : Cur w b s p) (n : Int) (h0 : 0 ≤ n) (hn : (s.size : Int) - p < n) :
    Calls Try.prog 96 #[.pointer (some ⟨b, 0, none⟩), .int .u64 n] w fun e w' => e = .panicked bad ∧ Only b w w' := by
  have c0 := hc.txt
  have c1 := hc.at_
  have Hc := Lib.hid hc
  clear hc
  have hp0 : (0 : Int) ≤ p := by omega
  have hp1 : (p : Int) ≤ s.size := by omega
  go_enter Try.func96, Try.ntmps96
  go_wp2
  go_quiet (fail)
  go_wp2
  exact ⟨rfl, rfl, (Only.refl _ _).drewN _⟩

/-- So many bytes at a place, the lowest eight bits first. -/
theorem or_low {x y : Int} (h0 : 0 ≤ x) (h1 : x * 256 < B64) (y0 : 0 ≤ y) (y1 : y ≤ 255) : bits .or .u64 (IntKind.u64.wrap (x * 256)) y = y + 256 * x := by
  rw [IntWalk.u64_in _ ⟨by omega, by unfold B64 at h1; omega⟩]
  have := bits_join .u64 64 (by decide) wraps_u64 8 (x * 256) y (by omega) (by omega) (by unfold B64 at h1; omega) y0 (by omega) (by omega)
  rw [this]; omega

set_option maxRecDepth 100000 in
set_option maxHeartbeats 1600000 in
theorem fixed_ok (s : ByteArray) (p b : Nat) (w : World) (hs : s.size ≤ 140737488351232) (hc : Cur w b s p) (n : Nat) (hn8 : n ≤ 8) (hn : p + n ≤ s.size) :
    Calls Try.prog 95 #[.pointer (some ⟨b, 0, none⟩), .int .u64 (n : Int)] w fun e w' => e = .returned (.int .u64 (lowS s p n)) ∧ Cur w' b s (p + n) ∧ Only b w w' := by
  have Hext := Lib.hid (show (s.extract p (p + n)).size = n by simp; omega)
  obtain ⟨t, ht⟩ : ∃ t, t = s.extract p (p + n) := ⟨_, rfl⟩
  have Ht := Lib.hid ht
  have Hb := Lib.hid (bytes_ok s p b w hs hc n hn)
  rw [← Ht.out] at Hb Hext
  have hpn := hn
  have tz : t.size ≤ 8 := by rw [Hext.out]; exact hn8
  clear hc ht
  go_enter Try.func95, Try.ntmps95
  go_wp2_with fail
  refine Hb.out.mono ?_
  rintro e w1 ⟨rfl, hc1, ho1⟩
  have Hc1 := Lib.hid hc1
  clear hc1
  go_wp2_with fail
  go_loop [5, 7] (fun u i => ∃ k : Nat, k ≤ t.size ∧ i = .int .i64 ((k : Int) - 1) ∧ u = .int .u64 (lowS s (p + k) (n - k))) (fun _ i => (intOf i + 1).toNat)
  case atStart => exact ⟨t.size, Nat.le_refl _, rfl, by rw [Hext.out, Nat.sub_self]; rfl⟩
  case round =>
    obtain ⟨k, hk, hi, rfl⟩ := hrel
    cases k with
    | zero =>
      subst hi
      go_wp2
      go_ret
      exact ⟨rfl, Hc1.out, ho1⟩
    | succ k =>
      rw [show ((k + 1 : Nat) : Int) - 1 = (k : Int) by omega] at hi
      subst hi
      have hb := bt_bd t k
      have hidx : ∀ w, (Instr.index 9 (.string t) (.int .i64 (k : Int))).run Try.prog w = .ok (.int .u8 (bt t k)) w := fun w => idx_str t k (by omega) w _ rfl
      have hl := lowS_bd s (p + (k + 1)) (n - (k + 1))
      have Hl2 := Lib.hid (show lowS s (p + (k + 1)) (n - (k + 1)) * 256 < B64 from lowS_64 s _ _ (by have := Hext.out; omega))
      have Hor := Lib.hid (or_low hl.1 Hl2.out hb.1 hb.2)
      have Hst := Lib.hid (show bt t k + 256 * lowS s (p + (k + 1)) (n - (k + 1)) = lowS s (p + k) (n - k) by
        have hn : n - k = (n - (k + 1)) + 1 := by have := Hext.out; omega
        rw [hn, lowS, Ht.out, bt_extract s p (p + n) k (by have := Hext.out; omega) hpn]
        rfl)
      have hl0 := hl.1
      clear hl
      go_wp2
      go_round
      case rel => exact ⟨k, by omega, rfl, by rw [Hor.out, Hst.out]⟩
      case measure => simp [intOf]

set_option maxRecDepth 100000 in
set_option maxHeartbeats 1600000 in
theorem fixed_bad (s : ByteArray) (p b : Nat) (w : World) (hs : s.size ≤ 140737488351232) (hp : p ≤ s.size) (hc : Cur w b s p) (n : Nat) (hn : s.size < p + n) :
    Calls Try.prog 95 #[.pointer (some ⟨b, 0, none⟩), .int .u64 (n : Int)] w fun e w' => e = .panicked bad ∧ Only b w w' := by
  have Hb := Lib.hid (bytes_bad s p b w hs hp hc (n : Int) (by omega) (by omega))
  clear hc
  go_enter Try.func95, Try.ntmps95
  go_wp2_with fail
  refine Hb.out.mono ?_
  rintro e w1 ⟨rfl, ho1⟩
  exact ⟨rfl, rfl, ho1⟩
end Go.Proofs.Ytkcnpnnflbibiaa

/- The walks: a field off the cursor. -/
namespace Go.Proofs.Ytkcnpnnflbibiaa
open Go.RowKit

def Fd.val (f : Fd) : Value := .agg #[.int .i64 f.num, .int .i64 f.kind, .int .u64 f.u, .string f.b]
def FieldPost (s : ByteArray) (p b : Nat) (w : World) (e : Ending) (w' : World) : Prop :=
  Only b w w' ∧ ((∃ f n, fieldS s p = some (f, n) ∧ e = .returned f.val ∧ Cur w' b s n) ∨ (fieldS s p = none ∧ e = .panicked bad))

theorem blk4 {W : World} {g : Nat} {t : TypeId} {v0 v1 v2 v3 : Value} (h : W.heap[g]? = some (.cells #[v0, v1, v2, v3] t (0, 0))) :
    (W.cell? ⟨g, 0, none⟩ = some v0 ∧ W.cell? ⟨g, 1, none⟩ = some v1 ∧ W.cell? ⟨g, 2, none⟩ = some v2 ∧ W.cell? ⟨g, 3, none⟩ = some v3) ∧
    (W.frozen? ⟨g, 0, none⟩ = false ∧ W.frozen? ⟨g, 1, none⟩ = false ∧ W.frozen? ⟨g, 2, none⟩ = false ∧ W.frozen? ⟨g, 3, none⟩ = false) := by
  refine ⟨⟨cell_of_row W g 0 _ t (0, 0) h, cell_of_row W g 1 _ t (0, 0) h, cell_of_row W g 2 _ t (0, 0) h, cell_of_row W g 3 _ t (0, 0) h⟩, ?_⟩
  refine ⟨?_, ?_, ?_, ?_⟩ <;> simp [World.frozen?, h]
theorem only5 {b : Nat} {w W : World} (h : Only b w W) {g : Nat} (hg : w.heap.size ≤ g) (i : Nat) (x y0 y1 y2 y3 : Value) :
    Only b w (((((W.setCell ⟨g, i, none⟩ x).setCell ⟨w.heap.size, 0, none⟩ y0).setCell ⟨w.heap.size, 1, none⟩ y1).setCell ⟨w.heap.size, 2, none⟩ y2).setCell ⟨w.heap.size, 3, none⟩ y3) :=
  ((((h.new_ hg x).new_ (Nat.le_refl _) y0).new_ (Nat.le_refl _) y1).new_ (Nat.le_refl _) y2).new_ (Nat.le_refl _) y3
theorem cur5 {b n : Nat} {s : ByteArray} {W : World} (h : Cur W b s n) {g r : Nat} (hg : b ≠ g) (hr : b ≠ r) (i : Nat) (x y0 y1 y2 y3 : Value) :
    Cur (((((W.setCell ⟨g, i, none⟩ x).setCell ⟨r, 0, none⟩ y0).setCell ⟨r, 1, none⟩ y1).setCell ⟨r, 2, none⟩ y2).setCell ⟨r, 3, none⟩ y3) b s n :=
  ((((h.far hg x).far hr y0).far hr y1).far hr y2).far hr y3
theorem mask7 {c : Int} (h₀ : 0 ≤ c) (h₁ : c < B64) : bits .and .u64 c 7 = c % 8 := bits_mask .u64 64 (by decide) wraps_u64 3 (by decide) c h₀ (by unfold B64 at h₁; omega)
theorem fieldS_none {s : ByteArray} {p : Nat} (h : tk s p = none) : fieldS s p = none := by simp [fieldS, h]
theorem fieldS_head {s : ByteArray} {p : Nat} {hd : Int} {n : Nat} (h : tk s p = some (hd, n)) (hb : 4294967295 < hd ∨ hd < 8) : fieldS s p = none := by simp [fieldS, h, hb]
theorem fieldS_body {s : ByteArray} {p : Nat} {hd : Int} {n : Nat} (h : tk s p = some (hd, n)) (hb : ¬ (4294967295 < hd ∨ hd < 8)) : fieldS s p = bodyS s hd n := by
  simp only [fieldS, h, Option.bind_some]
  rw [if_neg hb]

set_option maxRecDepth 100000 in
set_option maxHeartbeats 1600000 in
theorem field_any (s : ByteArray) (p b : Nat) (w : World) (hs : s.size ≤ 140737488351232) (hp : p ≤ s.size) (hc : Cur w b s p) :
    Calls Try.prog 87 #[.pointer (some ⟨b, 0, none⟩)] w (FieldPost s p b w) := by
  have hbl := hc.lt
  have Hc := Lib.hid (show Cur (w.alloc (.cells #[.int .i64 0, .int .i64 0, .int .u64 0, .string ⟨#[]⟩] 24)) b s p from (Below.heap_alloc _ _ _ hbl).trans hc)
  clear hc
  go_enter Try.func87, Try.ntmps87
  go_wp2_with fail
  refine (varint_any s p b _ hs hp Hc.out).mono ?_
  rintro e w1 ⟨ho1, hcase⟩
  have s1 : w.heap.size + 1 ≤ w1.heap.size := by have := ho1.size; simpa using this
  have hblk : w1.heap[w.heap.size]? = some (.cells #[.int .i64 0, .int .i64 0, .int .u64 0, .string ⟨#[]⟩] 24 (0, 0)) := (ho1.block _ (by simp) (by omega)).trans (heap_alloc_new w _)
  have Hblk := Lib.hid hblk
  have Ho1 := Lib.hid (((Only.refl b w).alloc _).trans ho1)
  clear hblk ho1
  rcases hcase with ⟨hd, n, htk, rfl, hc1⟩ | ⟨htk, rfl⟩
  case inr => exact ⟨rfl, Ho1.out, .inr ⟨fieldS_none htk, rfl⟩⟩
  case inl =>
    obtain ⟨h0, h64, hn1, hn2⟩ := tk_bd htk
    have Htk := Lib.hid htk
    have H64 := Lib.hid h64
    have Hc1 := Lib.hid hc1
    clear htk h64 hc1
    by_cases hbig : 4294967295 < hd
    · have Hf := Lib.hid (fieldS_head Htk.out (.inl hbig))
      have q1 : (hd / 4294967296 != 0) = true := by simp; omega
      go_wp2
      exact ⟨rfl, Ho1.out, .inr ⟨Hf.out, rfl⟩⟩
    · have q1 : (hd / 4294967296 != 0) = false := by simp; omega
      by_cases hsm : hd < 8
      · have Hf := Lib.hid (fieldS_head Htk.out (.inr hsm))
        have q2 : (hd / 8 == 0) = true := by simp; omega
        go_wp2
        exact ⟨rfl, Ho1.out, .inr ⟨Hf.out, rfl⟩⟩
      · have q2 : (hd / 8 == 0) = false := by simp; omega
        have Hf := Lib.hid (fieldS_body Htk.out (by omega))
        have hm7 := mask7 h0 H64.out
        have Hm7 := Lib.hid hm7
        have kb : 0 ≤ hd % 8 ∧ hd % 8 < 8 := by omega
        have nb : 0 ≤ hd / 8 ∧ hd / 8 ≤ 536870911 := by omega
        by_cases k0 : hd % 8 = 0
        · have q3 : (hd % 8 == 0) = true := by simp [k0]
          have K0 := Lib.hid k0
          clear k0
          go_wp2_with fail
          refine (varint_any s n b _ hs hn2 ((Below.heap_alloc _ _ _ Hc1.out.lt).trans Hc1.out)).mono ?_
          rintro e w2 ⟨ho2, hcase⟩
          have Ho2 := Lib.hid (Ho1.out.trans (((Only.refl b w1).alloc _).trans ho2))
          have hF := (ho2.block w1.heap.size (by simp) (by have := Hc1.out.lt; omega)).trans (heap_alloc_new w1 _)
          have hR := (ho2.block w.heap.size (by simp; omega) (by omega)).trans ((Below.heap_alloc w1 _ w.heap.size (by omega)).trans Hblk.out)
          have s2 : w1.heap.size + 1 ≤ w2.heap.size := by have := ho2.size; simpa using this
          clear ho2
          rcases hcase with ⟨u, n2, htk2, rfl, hc2⟩ | ⟨htk2, rfl⟩
          case inr => exact ⟨rfl, Ho2.out, .inr ⟨by rw [Hf.out, bodyS, if_pos K0.out, htk2]; rfl, rfl⟩⟩
          case inl =>
            obtain ⟨⟨a0, a1, a2, a3⟩, ⟨b0, b1, b2, b3⟩⟩ := blk4 hF
            obtain ⟨⟨c0, c1, c2, c3⟩, ⟨d0, d1, d2, d3⟩⟩ := blk4 hR
            have Hres := Lib.hid (show fieldS s p = some (⟨hd / 8, 0, u, ⟨#[]⟩⟩, n2) by rw [Hf.out, bodyS, if_pos K0.out, htk2]; rfl)
            have Hc2 := Lib.hid hc2
            clear hF hR htk2 hc2
            go_wp2
            refine bodyPost_ret (v := .agg #[.int .i64 (hd / 8), .int .i64 (hd % 8), .int .u64 u, .string ⟨#[]⟩]) (by simp [results, Try.results87, go_sem, c0, c1, c2, c3]) rfl ⟨?_, .inl ⟨_, _, Hres.out, by rw [K0.out]; rfl, ?_⟩⟩
            · exact only5 Ho2.out (by omega) _ _ _ _ _ _
            · exact cur5 Hc2.out (by omega) (by omega) _ _ _ _ _ _
        · have q3 : (hd % 8 == 0) = false := by simp [k0]
          by_cases k1 : hd % 8 = 1
          · have q4 : (hd % 8 == 1) = true := by simp [k1]
            have K0 := Lib.hid k0
            have K1 := Lib.hid k1
            clear k0 k1
            by_cases hsz : n + 8 ≤ s.size
            · have Hres := Lib.hid (show fieldS s p = some (⟨hd / 8, 1, lowS s n 8, ⟨#[]⟩⟩, n + 8) by rw [Hf.out, bodyS, if_neg K0.out, if_pos K1.out, if_neg (by omega)])
              have Hfx := Lib.hid (fixed_ok s n b _ hs (Hc1.out.alloc (.cells #[.int .i64 (hd / 8), .int .i64 (hd % 8), .int .u64 0, .string ⟨#[]⟩] 24)) 8 (by omega) hsz)
              go_wp2_with fail
              refine Hfx.out.mono ?_
              rintro e w2 ⟨rfl, hc2, ho2⟩
              have Ho2 := Lib.hid (Ho1.out.trans (((Only.refl b w1).alloc _).trans ho2))
              have hF := (ho2.block w1.heap.size (by simp) (by have := Hc1.out.lt; omega)).trans (heap_alloc_new w1 _)
              have hR := (ho2.block w.heap.size (by simp; omega) (by omega)).trans ((Below.heap_alloc w1 _ w.heap.size (by omega)).trans Hblk.out)
              have s2 : w1.heap.size + 1 ≤ w2.heap.size := by have := ho2.size; simpa using this
              obtain ⟨⟨a0, a1, a2, a3⟩, ⟨b0, b1, b2, b3⟩⟩ := blk4 hF
              obtain ⟨⟨c0, c1, c2, c3⟩, ⟨d0, d1, d2, d3⟩⟩ := blk4 hR
              have Hc2 := Lib.hid hc2
              clear ho2 hF hR hc2
              go_wp2
              refine bodyPost_ret (v := .agg #[.int .i64 (hd / 8), .int .i64 (hd % 8), .int .u64 (lowS s n 8), .string ⟨#[]⟩]) (by simp [results, Try.results87, go_sem, c0, c1, c2, c3]) rfl ⟨?_, .inl ⟨_, _, Hres.out, by rw [K1.out]; rfl, ?_⟩⟩
              · exact only5 Ho2.out (by omega) _ _ _ _ _ _
              · exact cur5 Hc2.out (by omega) (by omega) _ _ _ _ _ _
            · have Hres := Lib.hid (show fieldS s p = none by rw [Hf.out, bodyS, if_neg K0.out, if_pos K1.out, if_pos (by omega)])
              have Hfx := Lib.hid (fixed_bad s n b _ hs hn2 (Hc1.out.alloc (.cells #[.int .i64 (hd / 8), .int .i64 (hd % 8), .int .u64 0, .string ⟨#[]⟩] 24)) 8 (by omega))
              go_wp2_with fail
              refine Hfx.out.mono ?_
              rintro e w2 ⟨rfl, ho2⟩
              exact ⟨rfl, Ho1.out.trans (((Only.refl b w1).alloc _).trans ho2), .inr ⟨Hres.out, rfl⟩⟩
          · have q4 : (hd % 8 == 1) = false := by simp [k1]
            by_cases k5 : hd % 8 = 5
            · have q5 : (hd % 8 == 5) = true := by simp [k5]
              have K0 := Lib.hid k0
              have K1 := Lib.hid k1
              have K5 := Lib.hid k5
              clear k0 k1 k5
              by_cases hsz : n + 4 ≤ s.size
              · have Hres := Lib.hid (show fieldS s p = some (⟨hd / 8, 5, lowS s n 4, ⟨#[]⟩⟩, n + 4) by rw [Hf.out, bodyS, if_neg K0.out, if_neg K1.out, if_pos K5.out, if_neg (by omega)])
                have Hfx := Lib.hid (fixed_ok s n b _ hs (Hc1.out.alloc (.cells #[.int .i64 (hd / 8), .int .i64 (hd % 8), .int .u64 0, .string ⟨#[]⟩] 24)) 4 (by omega) hsz)
                go_wp2_with fail
                refine Hfx.out.mono ?_
                rintro e w2 ⟨rfl, hc2, ho2⟩
                have Ho2 := Lib.hid (Ho1.out.trans (((Only.refl b w1).alloc _).trans ho2))
                have hF := (ho2.block w1.heap.size (by simp) (by have := Hc1.out.lt; omega)).trans (heap_alloc_new w1 _)
                have hR := (ho2.block w.heap.size (by simp; omega) (by omega)).trans ((Below.heap_alloc w1 _ w.heap.size (by omega)).trans Hblk.out)
                have s2 : w1.heap.size + 1 ≤ w2.heap.size := by have := ho2.size; simpa using this
                obtain ⟨⟨a0, a1, a2, a3⟩, ⟨b0, b1, b2, b3⟩⟩ := blk4 hF
                obtain ⟨⟨c0, c1, c2, c3⟩, ⟨d0, d1, d2, d3⟩⟩ := blk4 hR
                have Hc2 := Lib.hid hc2
                clear ho2 hF hR hc2
                go_wp2
                refine bodyPost_ret (v := .agg #[.int .i64 (hd / 8), .int .i64 (hd % 8), .int .u64 (lowS s n 4), .string ⟨#[]⟩]) (by simp [results, Try.results87, go_sem, c0, c1, c2, c3]) rfl ⟨?_, .inl ⟨_, _, Hres.out, by rw [K5.out]; rfl, ?_⟩⟩
                · exact only5 Ho2.out (by omega) _ _ _ _ _ _
                · exact cur5 Hc2.out (by omega) (by omega) _ _ _ _ _ _
              · have Hres := Lib.hid (show fieldS s p = none by rw [Hf.out, bodyS, if_neg K0.out, if_neg K1.out, if_pos K5.out, if_pos (by omega)])
                have Hfx := Lib.hid (fixed_bad s n b _ hs hn2 (Hc1.out.alloc (.cells #[.int .i64 (hd / 8), .int .i64 (hd % 8), .int .u64 0, .string ⟨#[]⟩] 24)) 4 (by omega))
                go_wp2_with fail
                refine Hfx.out.mono ?_
                rintro e w2 ⟨rfl, ho2⟩
                exact ⟨rfl, Ho1.out.trans (((Only.refl b w1).alloc _).trans ho2), .inr ⟨Hres.out, rfl⟩⟩
            · have q5 : (hd % 8 == 5) = false := by simp [k5]
              by_cases k2 : hd % 8 = 2
              · have q6 : (hd % 8 == 2) = true := by simp [k2]
                have K0 := Lib.hid k0
                have K1 := Lib.hid k1
                have K5 := Lib.hid k5
                have K2 := Lib.hid k2
                have Hbd := Lib.hid (show fieldS s p = (tk s n).bind fun r => if (s.size : Int) - r.2 < r.1 then none else some (⟨hd / 8, 2, 0, s.extract r.2 (r.2 + r.1.toNat)⟩, r.2 + r.1.toNat) by rw [Hf.out, bodyS, if_neg K0.out, if_neg K1.out, if_neg K5.out, if_pos K2.out])
                clear k0 k1 k5 k2
                go_wp2_with fail
                refine (varint_any s n b _ hs hn2 (Hc1.out.alloc _)).mono ?_
                rintro e w2 ⟨ho2, hcase⟩
                have Hg2 := Lib.hid (((Only.refl b w1).alloc _).trans ho2)
                have Ho2 := Lib.hid (Ho1.out.trans Hg2.out)
                have hF := (ho2.block w1.heap.size (by simp) (by have := Hc1.out.lt; omega)).trans (heap_alloc_new w1 _)
                have hR := (ho2.block w.heap.size (by simp; omega) (by omega)).trans ((Below.heap_alloc w1 _ w.heap.size (by omega)).trans Hblk.out)
                have s2 : w1.heap.size + 1 ≤ w2.heap.size := by have := ho2.size; simpa using this
                have HF := Lib.hid hF
                have HR := Lib.hid hR
                clear ho2 hF hR
                rcases hcase with ⟨u, n2, htk2, rfl, hc2⟩ | ⟨htk2, rfl⟩
                case inr => exact ⟨rfl, Ho2.out, .inr ⟨by rw [Hbd.out, htk2]; rfl, rfl⟩⟩
                case inl =>
                  obtain ⟨u0, _, n21, n22⟩ := tk_bd htk2
                  have Htk2 := Lib.hid htk2
                  have Hc2 := Lib.hid hc2
                  clear htk2 hc2
                  by_cases hlong : (s.size : Int) - n2 < u
                  · have Hbb := Lib.hid (bytes_bad s n2 b _ hs n22 Hc2.out u u0 hlong)
                    go_wp2_with fail
                    refine Hbb.out.mono ?_
                    rintro e w3 ⟨rfl, ho3⟩
                    exact ⟨rfl, Ho2.out.trans ho3, .inr ⟨by rw [Hbd.out, Htk2.out]; simp only [Option.bind_some]; rw [if_pos hlong], rfl⟩⟩
                  · obtain ⟨m, rfl⟩ := Int.eq_ofNat_of_zero_le u0
                    have Hbb := Lib.hid (bytes_ok s n2 b _ hs Hc2.out m (by omega))
                    have Hres := Lib.hid (show fieldS s p = some (⟨hd / 8, 2, 0, s.extract n2 (n2 + m)⟩, n2 + m) by rw [Hbd.out, Htk2.out]; simp only [Option.bind_some]; rw [if_neg hlong]; rfl)
                    go_wp2_with fail
                    refine Hbb.out.mono ?_
                    rintro e w3 ⟨rfl, hc3, ho3⟩
                    have hF := (ho3.block w1.heap.size (by omega) (by have := Hc1.out.lt; omega)).trans HF.out
                    have hR := (ho3.block w.heap.size (by omega) (by omega)).trans HR.out
                    have s3 := ho3.size
                    have Ho3 := Lib.hid (Ho2.out.trans ho3)
                    have Hc3 := Lib.hid hc3
                    obtain ⟨⟨a0, a1, a2, a3⟩, ⟨b0, b1, b2, b3⟩⟩ := blk4 hF
                    obtain ⟨⟨c0, c1, c2, c3⟩, ⟨d0, d1, d2, d3⟩⟩ := blk4 hR
                    clear ho3 hF hR hc3
                    go_wp2
                    refine bodyPost_ret (v := .agg #[.int .i64 (hd / 8), .int .i64 (hd % 8), .int .u64 0, .string (s.extract n2 (n2 + m))]) (by simp [results, Try.results87, go_sem, c0, c1, c2, c3]) rfl ⟨?_, .inl ⟨_, _, Hres.out, by rw [K2.out]; rfl, ?_⟩⟩
                    · exact only5 Ho3.out (by omega) _ _ _ _ _ _
                    · exact cur5 Hc3.out (by omega) (by omega) _ _ _ _ _ _
              · have q6 : (hd % 8 == 2) = false := by simp [k2]
                have Hres := Lib.hid (show fieldS s p = none by rw [Hf.out, bodyS, if_neg k0, if_neg k1, if_neg k5, if_neg k2])
                clear k0 k1 k5 k2
                go_wp2
                exact ⟨rfl, Ho1.out.alloc _, .inr ⟨Hres.out, rfl⟩⟩
end Go.Proofs.Ytkcnpnnflbibiaa
