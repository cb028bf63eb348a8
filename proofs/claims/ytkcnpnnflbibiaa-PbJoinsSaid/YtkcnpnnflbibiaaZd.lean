/- The walks: careful. The walks: the reference's field. Lists of fields in memory. The walks: the reference's Fields. -/
import Derived.Test.YtkcnpnnflbibiaaZc
import Derived.Defers
import Derived.Recover
set_option linter.unusedVariables false
/- The walks: careful. -/
namespace Go.Proofs.Ytkcnpnnflbibiaa
open Go.RowKit

theorem is_bad (w : World) : (Instr.typeAssert (.iface 137 (.agg #[])) 20 137 true).run Try.prog w = .ok (.tuple #[.agg #[], .bool true]) w := by kernel_rfl

set_option maxRecDepth 100000 in
theorem catch_bad (p : Addr) (x : Int) (w : World) (hc : w.cell? p = some (.int .i64 x)) (hz : w.frozen? p = false) (hp : p.block < w.heap.size) :
    CallsD Try.prog 93 #[.pointer (some p)] (.panicking bad) w fun e u' w' =>
      e = .returned (.tuple #[]) ∧ u' = .panicking [{ v := .iface 137 (.agg #[]), recovered := true }] ∧ w' = (w.alloc (.cells #[] 137)).setCell p (.int .i64 3) := by
  refine callsD_of_wpS Try.func93 rfl fun c₀ cs hu => ?_
  apply wpS_seq
  apply wpS_region
  simp [wpOpsS, go_sem, recoverD, hu, Try.ntmps93, Exit.thenS, bad]
  rw [show #[Value.pointer (some p)] ++ ((Array.replicate 14 undef).setIfInBounds 3 (Value.iface 137 (.agg #[]))).setIfInBounds 0 (Value.iface 137 (.agg #[])) = #[Value.pointer (some p), Value.iface 137 (.agg #[]), undef, undef, Value.iface 137 (.agg #[]), undef, undef, undef, undef, undef, undef, undef, undef, undef, undef] from rfl]
  refine wpS_of_wp ?_
  have hta := is_bad
  have hc' : (w.alloc (.cells #[] 137)).cell? p = some (.int .i64 x) := (World.cell?_alloc_lt w _ p hp).trans hc
  have hz' : (w.alloc (.cells #[] 137)).frozen? p = false := (World.frozen?_alloc_past _ _ _ hp).trans hz
  go_wp2
  cases c₀
  simp_all [bodyPostS, results, Try.results93]

theorem catch_idle (p : Addr) (w : World) :
    CallsD Try.prog 93 #[.pointer (some p)] .returning w fun e u' w' => e = .returned (.tuple #[]) ∧ u' = .returning ∧ w' = w := by
  refine callsD_of_wpS Try.func93 rfl fun c₀ cs hu => ?_
  apply wpS_seq
  apply wpS_region
  simp [wpOpsS, go_sem, recoverD, hu, Try.ntmps93, Exit.thenS]
  rw [show #[Value.pointer (some p)] ++ ((Array.replicate 14 undef).setIfInBounds 3 Value.nilIface).setIfInBounds 0 Value.nilIface = #[Value.pointer (some p), Value.nilIface, undef, undef, Value.nilIface, undef, undef, undef, undef, undef, undef, undef, undef, undef, undef] from rfl]
  refine wpS_of_wp ?_
  go_wp2
  cases c₀
  simp_all [bodyPostS, results, Try.results93]

/-- What careful leaves of what its function leaves. -/
def CarePost (w : World) (R : Ending → World → Prop) (e : Ending) (w' : World) : Prop :=
  ∃ e1 w1, R e1 w1 ∧ ((e1 = .returned (.tuple #[]) ∧ e = .returned (.int .i64 0) ∧ w' = w1.setCell ⟨w.heap.size, 0, none⟩ (.int .i64 0)) ∨
    (e1 = .panicked bad ∧ e = .returned (.int .i64 3) ∧ w' = (w1.alloc (.cells #[] 137)).setCell ⟨w.heap.size, 0, none⟩ (.int .i64 3)))
/-- What is asked of it. -/
def Careful (w : World) (R : Ending → World → Prop) : Prop :=
  ∀ e w1, R e w1 → (e = .returned (.tuple #[]) ∨ e = .panicked bad) ∧ w1.heap[w.heap.size]? = some (.cells #[.int .i64 0] 26 (0, 0))

set_option maxRecDepth 100000 in
set_option maxHeartbeats 800000 in
theorem careful_86 (a1 a2 a3 : Addr) (w : World) (R : Ending → World → Prop) (h : Calls Try.prog 86 #[.pointer (some a1), .pointer (some a2), .pointer (some a3)] (w.alloc (.cells #[.int .i64 0] 26)) R) (hR : Careful w R) :
    Calls Try.prog 85 #[.func (.func 86) #[] #[.pointer (some a1), .pointer (some a2), .pointer (some a3)]] w (CarePost w R) := by
  have hmf : ∀ (fn : Fn) (first cap : Array Value) (w : World), (Instr.makeFunc fn first cap).run Try.prog w = .ok (.func fn first cap) w := fun _ _ _ _ => rfl
  have Hh := Lib.hid h
  have HR := Lib.hid hR
  clear h hR
  go_enter_defers Try.func85, Try.ntmps85
  go_wp2_with fail
  refine Hh.out.mono ?_
  intro e w1 hr
  obtain ⟨he, hb⟩ := HR.out e w1 hr
  have hlt : w.heap.size < w1.heap.size := (Array.getElem?_eq_some_iff.1 hb).1
  have c0 : w1.cell? ⟨w.heap.size, 0, none⟩ = some (.int .i64 0) := cell_of_row w1 _ 0 _ 26 (0, 0) hb
  have f0 : w1.frozen? ⟨w.heap.size, 0, none⟩ = false := by simp [World.frozen?, hb]
  have Hr := Lib.hid hr
  clear hb hr
  rcases he with rfl | rfl
  · go_wp2
    refine leaves_cons (f := 93) (args := #[.pointer (some ⟨w.heap.size, 0, none⟩)]) (by simp) (by simp [go_sem]) ?_
    refine (catch_idle _ _).mono ?_
    rintro e u' w'' ⟨rfl, rfl, rfl⟩
    simp [Leaves, settle, results, Try.results85, go_sem, c0]
    exact ⟨_, _, Hr.out, .inl ⟨rfl, rfl, rfl⟩⟩
  · go_wp2
    refine leaves_cons (f := 93) (args := #[.pointer (some ⟨w.heap.size, 0, none⟩)]) (by simp) (by simp [go_sem]) ?_
    refine (catch_bad _ 0 _ c0 f0 hlt).mono ?_
    rintro e u' w'' ⟨rfl, rfl, rfl⟩
    have c1 : (w1.alloc (.cells #[] 137)).cell? ⟨w.heap.size, 0, none⟩ = some (.int .i64 0) := (World.cell?_alloc_lt w1 _ _ hlt).trans c0
    have c2 : ((w1.alloc (.cells #[] 137)).setCell ⟨w.heap.size, 0, none⟩ (.int .i64 3)).cell? ⟨w.heap.size, 0, none⟩ = some (.int .i64 3) := World.cell?_setCell_same _ _ _ c1
    simp [Leaves, settle, results, Try.results85, go_sem, c2]
    exact ⟨_, _, Hr.out, .inr ⟨rfl, rfl, rfl⟩⟩
set_option maxRecDepth 100000 in
set_option maxHeartbeats 800000 in
theorem careful_97 (a1 a2 a3 : Addr) (w : World) (R : Ending → World → Prop) (h : Calls Try.prog 97 #[.pointer (some a1), .pointer (some a2), .pointer (some a3)] (w.alloc (.cells #[.int .i64 0] 26)) R) (hR : Careful w R) :
    Calls Try.prog 85 #[.func (.func 97) #[] #[.pointer (some a1), .pointer (some a2), .pointer (some a3)]] w (CarePost w R) := by
  have hmf : ∀ (fn : Fn) (first cap : Array Value) (w : World), (Instr.makeFunc fn first cap).run Try.prog w = .ok (.func fn first cap) w := fun _ _ _ _ => rfl
  have Hh := Lib.hid h
  have HR := Lib.hid hR
  clear h hR
  go_enter_defers Try.func85, Try.ntmps85
  go_wp2_with fail
  refine Hh.out.mono ?_
  intro e w1 hr
  obtain ⟨he, hb⟩ := HR.out e w1 hr
  have hlt : w.heap.size < w1.heap.size := (Array.getElem?_eq_some_iff.1 hb).1
  have c0 : w1.cell? ⟨w.heap.size, 0, none⟩ = some (.int .i64 0) := cell_of_row w1 _ 0 _ 26 (0, 0) hb
  have f0 : w1.frozen? ⟨w.heap.size, 0, none⟩ = false := by simp [World.frozen?, hb]
  have Hr := Lib.hid hr
  clear hb hr
  rcases he with rfl | rfl
  · go_wp2
    refine leaves_cons (f := 93) (args := #[.pointer (some ⟨w.heap.size, 0, none⟩)]) (by simp) (by simp [go_sem]) ?_
    refine (catch_idle _ _).mono ?_
    rintro e u' w'' ⟨rfl, rfl, rfl⟩
    simp [Leaves, settle, results, Try.results85, go_sem, c0]
    exact ⟨_, _, Hr.out, .inl ⟨rfl, rfl, rfl⟩⟩
  · go_wp2
    refine leaves_cons (f := 93) (args := #[.pointer (some ⟨w.heap.size, 0, none⟩)]) (by simp) (by simp [go_sem]) ?_
    refine (catch_bad _ 0 _ c0 f0 hlt).mono ?_
    rintro e u' w'' ⟨rfl, rfl, rfl⟩
    have c1 : (w1.alloc (.cells #[] 137)).cell? ⟨w.heap.size, 0, none⟩ = some (.int .i64 0) := (World.cell?_alloc_lt w1 _ _ hlt).trans c0
    have c2 : ((w1.alloc (.cells #[] 137)).setCell ⟨w.heap.size, 0, none⟩ (.int .i64 3)).cell? ⟨w.heap.size, 0, none⟩ = some (.int .i64 3) := World.cell?_setCell_same _ _ _ c1
    simp [Leaves, settle, results, Try.results85, go_sem, c2]
    exact ⟨_, _, Hr.out, .inr ⟨rfl, rfl, rfl⟩⟩

/-- Of what was there blocks b and c alone may have turned. -/
structure Only2 (b c : Nat) (w w' : World) : Prop where
  os : w'.os = w.os
  tape : w'.tape = w.tape
  output : w'.output = w.output
  size : w.heap.size ≤ w'.heap.size
  block : ∀ k, k < w.heap.size → k ≠ b → k ≠ c → w'.heap[k]? = w.heap[k]?
theorem Only2.refl (b c : Nat) (w : World) : Only2 b c w w := ⟨rfl, rfl, rfl, Nat.le_refl _, fun _ _ _ _ => rfl⟩
theorem Only2.trans {b c : Nat} {x y z : World} (h : Only2 b c x y) (g : Only2 b c y z) : Only2 b c x z :=
  ⟨g.os.trans h.os, g.tape.trans h.tape, g.output.trans h.output, Nat.le_trans h.size g.size, fun k hk hb hc => (g.block k (by have := h.size; omega) hb hc).trans (h.block k hk hb hc)⟩
theorem Only.two {b : Nat} {x y : World} (h : Only b x y) (c : Nat) : Only2 b c x y := ⟨h.os, h.tape, h.output, h.size, fun k hk hb _ => h.block k hk hb⟩
theorem Only2.snd {b c : Nat} {x y : World} (h : Only2 b c x y) (i : Nat) (u : Value) : Only2 b c x (y.setCell ⟨c, i, none⟩ u) :=
  h.trans ⟨rfl, rfl, rfl, by simp [World.setCell], fun k _ _ hc => Below.heap_setCell _ _ _ _ hc⟩
theorem Only2.drewN {b c : Nat} {x y : World} (h : Only2 b c x y) (q : Nat) : Only2 b c x (y.drewN q) := ⟨h.os, h.tape, h.output, h.size, h.block⟩
theorem Only2.below {b c : Nat} {x y : World} (h : Only2 b c x y) {B : Nat} (hb : B ≤ b) (hc : B ≤ c) (hB : B ≤ x.heap.size) : Below B x y :=
  ⟨h.os, h.tape, h.output, h.size, fun k hk => h.block k (by omega) (by omega) (by omega)⟩
theorem one_cell {w : World} {g : Nat} {v : Value} {t : TypeId} (h : w.heap[g]? = some (.cells #[v] t (0, 0))) : w.cell? ⟨g, 0, none⟩ = some v ∧ w.frozen? ⟨g, 0, none⟩ = false ∧ g < w.heap.size :=
  ⟨cell_of_row w g 0 _ t (0, 0) h, by simp [World.frozen?, h], (Array.getElem?_eq_some_iff.1 h).1⟩
theorem one_set {w : World} {g : Nat} {v : Value} {t : TypeId} (h : w.heap[g]? = some (.cells #[v] t (0, 0))) (u : Value) : (w.setCell ⟨g, 0, none⟩ u).heap[g]? = some (.cells #[u] t (0, 0)) := by
  simp [World.setCell, Array.getElem?_modify, h]

end Go.Proofs.Ytkcnpnnflbibiaa

/- The walks: the reference's field. -/
namespace Go.Proofs.Ytkcnpnnflbibiaa
open Go.RowKit

theorem low_step {x y : Int} (h0 : 0 ≤ x) (h1 : x * 256 < B64) (y0 : 0 ≤ y) (y1 : y ≤ 255) (h2 : y + 256 * x < B64) : IntKind.u64.wrap (IntKind.u64.wrap (x * 256) + y) = y + 256 * x := by
  unfold B64 at *
  rw [IntWalk.u64_in (x * 256) ⟨by omega, by omega⟩, IntWalk.u64_in _ ⟨by omega, by omega⟩]; omega
theorem lowS_64' (s : ByteArray) (p n : Nat) (h : n ≤ 8) : lowS s p n < B64 := by
  have h1 := (lowS_bd s p n).2
  have h2 := pow256_le n 8 h
  have h3 : (256 : Int) ^ 8 = 18446744073709551616 := by decide
  unfold B64; omega

set_option maxRecDepth 100000 in
set_option maxHeartbeats 1600000 in
theorem low_any (s : ByteArray) (p n : Nat) (w : World) (hs : s.size ≤ 140737488351232) (hn8 : n ≤ 8) (hn : p + n ≤ s.size) :
    Calls Try.prog 58 #[.string s, .int .i64 (p : Int), .int .i64 (n : Int)] w fun e w' => e = .returned (.int .u64 (lowS s p n)) ∧ w = w' := by
  go_enter Try.func58, Try.ntmps58
  go_wp2_with fail
  go_loop [7, 8] (fun u i => ∃ k : Nat, k ≤ n ∧ i = .int .i64 ((k : Int) - 1) ∧ u = .int .u64 (lowS s (p + k) (n - k))) (fun _ i => (intOf i + 1).toNat)
  case atStart => exact ⟨n, Nat.le_refl _, rfl, by rw [Nat.sub_self]; rfl⟩
  case round =>
    obtain ⟨k, hk, hi, rfl⟩ := hrel
    cases k with
    | zero =>
      subst hi
      go_wp2
      go_ret
      exact ⟨rfl, rfl⟩
    | succ k =>
      rw [show ((k + 1 : Nat) : Int) - 1 = (k : Int) by omega] at hi
      subst hi
      have hb := bt_bd s (p + k)
      have hidx : ∀ w, (Instr.index 9 (.string s) (.int .i64 ((p : Int) + (k : Int)))).run Try.prog w = .ok (.int .u8 (bt s (p + k))) w := fun w => idx_str s (p + k) (by omega) w _ (by omega)
      have hl := (lowS_bd s (p + (k + 1)) (n - (k + 1))).1
      have Hl2 := Lib.hid (show lowS s (p + (k + 1)) (n - (k + 1)) * 256 < B64 from lowS_64 s _ _ (by omega))
      have Hst := Lib.hid (show bt s (p + k) + 256 * lowS s (p + (k + 1)) (n - (k + 1)) = lowS s (p + k) (n - k) by
        rw [show n - k = (n - (k + 1)) + 1 by omega, lowS]
        rfl)
      have Hor := Lib.hid (low_step hl Hl2.out hb.1 hb.2 (by rw [Hst.out]; exact lowS_64' s _ _ (by omega)))
      go_wp2
      go_round
      case rel => exact ⟨k, by omega, rfl, by rw [Hor.out, Hst.out]⟩
      case measure => simp [intOf]

def RField (s : ByteArray) (p : Nat) (w : World) (e : Ending) (w' : World) : Prop :=
  Below w.heap.size w w' ∧ ((∃ f n, fieldS s p = some (f, n) ∧ e = .returned (.tuple #[f.val, .int .i64 (n : Nat), .bool true])) ∨ (fieldS s p = none ∧ ∃ (f : Fd) (m : Int), e = .returned (.tuple #[f.val, .int .i64 m, .bool false])))

set_option maxRecDepth 100000 in
set_option maxHeartbeats 1600000 in
theorem rfield_any (s : ByteArray) (p : Nat) (w : World) (hs : s.size ≤ 140737488351232) (hp : p ≤ s.size) :
    Calls Try.prog 24 #[.string s, .int .i64 (p : Int)] w (RField s p w) := by
  have HT := Lib.hid (take_any s p (w.alloc (.cells #[.int .i64 0, .int .i64 0, .int .u64 0, .string ⟨#[]⟩] 24)) hs hp)
  go_enter Try.func24, Try.ntmps24
  go_wp2_with fail
  refine HT.out.mono ?_
  rintro e w1 ⟨hcase, rfl⟩
  rcases hcase with ⟨hd, n, htk, rfl⟩ | ⟨htk, rfl⟩
  case inr =>
    have Hf := Lib.hid (fieldS_none htk)
    clear htk
    go_wp2
    refine bodyPost_ret (v := .tuple #[.agg #[.int .i64 0, .int .i64 0, .int .u64 0, .string ⟨#[]⟩], .int .i64 0, .bool false]) (by simp [results, Try.results24, go_sem]) rfl ⟨?_, .inr ⟨Hf.out, ⟨0, 0, 0, ⟨#[]⟩⟩, _, rfl⟩⟩
    exact (Below.refl _ _).alloc (Nat.le_refl _) _
  case inl =>
    obtain ⟨h0, h64, hn1, hn2⟩ := tk_bd htk
    have Htk := Lib.hid htk
    have H64 := Lib.hid h64
    clear htk h64
    by_cases hbig : 4294967295 < hd
    · have Hf := Lib.hid (fieldS_head Htk.out (.inl hbig))
      go_wp2
      refine bodyPost_ret (v := .tuple #[.agg #[.int .i64 0, .int .i64 0, .int .u64 0, .string ⟨#[]⟩], .int .i64 0, .bool false]) (by simp [results, Try.results24, go_sem]) rfl ⟨?_, .inr ⟨Hf.out, ⟨0, 0, 0, ⟨#[]⟩⟩, _, rfl⟩⟩
      exact (Below.refl _ _).alloc (Nat.le_refl _) _
    · by_cases hsm : hd < 8
      · have Hf := Lib.hid (fieldS_head Htk.out (.inr hsm))
        go_wp2
        refine bodyPost_ret (v := .tuple #[.agg #[.int .i64 0, .int .i64 0, .int .u64 0, .string ⟨#[]⟩], .int .i64 0, .bool false]) (by simp [results, Try.results24, go_sem]) rfl ⟨?_, .inr ⟨Hf.out, ⟨0, 0, 0, ⟨#[]⟩⟩, _, rfl⟩⟩
        exact (Below.refl _ _).alloc (Nat.le_refl _) _
      · have Hf := Lib.hid (fieldS_body Htk.out (by omega))
        have hq8 := u64div 8 h0 H64.out (by omega)
        have kb : 0 ≤ hd % 8 ∧ hd % 8 < 8 := by omega
        have nb : 0 ≤ hd / 8 ∧ hd / 8 ≤ 536870911 := by omega
        by_cases k0 : hd % 8 = 0
        · have q3 : (hd % 8 == 0) = true := by simp [k0]
          have K0 := Lib.hid k0
          have Hbd := Lib.hid (show fieldS s p = (tk s n).map fun r => (⟨hd / 8, 0, r.1, ⟨#[]⟩⟩, r.2) by rw [Hf.out, bodyS, if_pos K0.out])
          clear k0
          go_wp2_with fail
          refine (take_any s n _ hs hn2).mono ?_
          rintro e w2 ⟨hcase, rfl⟩
          rcases hcase with ⟨u, n2, htk2, rfl⟩ | ⟨htk2, rfl⟩
          · have Hres := Lib.hid (show fieldS s p = some (⟨hd / 8, 0, u, ⟨#[]⟩⟩, n2) by rw [Hbd.out, htk2]; rfl)
            clear htk2
            go_wp2
            refine bodyPost_ret (v := .tuple #[.agg #[.int .i64 (hd / 8), .int .i64 (hd % 8), .int .u64 u, .string ⟨#[]⟩], .int .i64 (n2 : Int), .bool true]) (by simp [results, Try.results24, go_sem]) rfl ⟨?_, .inl ⟨_, _, Hres.out, by rw [K0.out]; rfl⟩⟩
            exact ((Below.refl _ _).alloc (Nat.le_refl _) _).alloc (by simp) _
          · have Hres := Lib.hid (show fieldS s p = none by rw [Hbd.out, htk2]; rfl)
            clear htk2
            go_wp2
            refine bodyPost_ret (v := .tuple #[.agg #[.int .i64 (hd / 8), .int .i64 (hd % 8), .int .u64 0, .string ⟨#[]⟩], .int .i64 0, .bool false]) (by simp [results, Try.results24, go_sem]) rfl ⟨?_, .inr ⟨Hres.out, ⟨hd / 8, hd % 8, 0, ⟨#[]⟩⟩, _, rfl⟩⟩
            exact ((Below.refl _ _).alloc (Nat.le_refl _) _).alloc (by simp) _
        · have q3 : (hd % 8 == 0) = false := by simp [k0]
          by_cases k1 : hd % 8 = 1
          · have q4 : (hd % 8 == 1) = true := by simp [k1]
            have q4b : (hd % 8 == 5) = false := by simp [k1]
            have K1 := Lib.hid k1
            by_cases hsz : n + 8 ≤ s.size
            · have Hres := Lib.hid (show fieldS s p = some (⟨hd / 8, 1, lowS s n 8, ⟨#[]⟩⟩, n + 8) by rw [Hf.out, bodyS, if_neg k0, if_pos K1.out, if_neg (by omega)])
              clear k0 k1
              go_wp2_with fail
              refine (low_any s n 8 _ hs (by omega) hsz).mono ?_
              rintro e w2 ⟨rfl, rfl⟩
              go_wp2
              refine bodyPost_ret (v := .tuple #[.agg #[.int .i64 (hd / 8), .int .i64 (hd % 8), .int .u64 (lowS s n 8), .string ⟨#[]⟩], .int .i64 ((n : Int) + 8), .bool true]) (by simp [results, Try.results24, go_sem]) rfl ⟨?_, .inl ⟨_, _, Hres.out, by rw [K1.out]; rfl⟩⟩
              exact ((Below.refl _ _).alloc (Nat.le_refl _) _).alloc (by simp) _
            · have Hres := Lib.hid (show fieldS s p = none by rw [Hf.out, bodyS, if_neg k0, if_pos K1.out, if_pos (by omega)])
              clear k0 k1
              go_wp2
              refine bodyPost_ret (v := .tuple #[.agg #[.int .i64 0, .int .i64 0, .int .u64 0, .string ⟨#[]⟩], .int .i64 0, .bool false]) (by simp [results, Try.results24, go_sem]) rfl ⟨?_, .inr ⟨Hres.out, ⟨0, 0, 0, ⟨#[]⟩⟩, _, rfl⟩⟩
              exact ((Below.refl _ _).alloc (Nat.le_refl _) _).alloc (by simp) _
          · have q4 : (hd % 8 == 1) = false := by simp [k1]
            by_cases k5 : hd % 8 = 5
            · have q5 : (hd % 8 == 5) = true := by simp [k5]
              have K5 := Lib.hid k5
              by_cases hsz : n + 4 ≤ s.size
              · have Hres := Lib.hid (show fieldS s p = some (⟨hd / 8, 5, lowS s n 4, ⟨#[]⟩⟩, n + 4) by rw [Hf.out, bodyS, if_neg k0, if_neg k1, if_pos K5.out, if_neg (by omega)])
                clear k0 k1 k5
                go_wp2_with fail
                refine (low_any s n 4 _ hs (by omega) hsz).mono ?_
                rintro e w2 ⟨rfl, rfl⟩
                go_wp2
                refine bodyPost_ret (v := .tuple #[.agg #[.int .i64 (hd / 8), .int .i64 (hd % 8), .int .u64 (lowS s n 4), .string ⟨#[]⟩], .int .i64 ((n : Int) + 4), .bool true]) (by simp [results, Try.results24, go_sem]) rfl ⟨?_, .inl ⟨_, _, Hres.out, by rw [K5.out]; rfl⟩⟩
                exact ((Below.refl _ _).alloc (Nat.le_refl _) _).alloc (by simp) _
              · have Hres := Lib.hid (show fieldS s p = none by rw [Hf.out, bodyS, if_neg k0, if_neg k1, if_pos K5.out, if_pos (by omega)])
                clear k0 k1 k5
                go_wp2
                refine bodyPost_ret (v := .tuple #[.agg #[.int .i64 0, .int .i64 0, .int .u64 0, .string ⟨#[]⟩], .int .i64 0, .bool false]) (by simp [results, Try.results24, go_sem]) rfl ⟨?_, .inr ⟨Hres.out, ⟨0, 0, 0, ⟨#[]⟩⟩, _, rfl⟩⟩
                exact ((Below.refl _ _).alloc (Nat.le_refl _) _).alloc (by simp) _
            · have q5 : (hd % 8 == 5) = false := by simp [k5]
              by_cases k2 : hd % 8 = 2
              · have q6 : (hd % 8 == 2) = true := by simp [k2]
                have K2 := Lib.hid k2
                have Hbd := Lib.hid (show fieldS s p = (tk s n).bind fun r => if (s.size : Int) - r.2 < r.1 then none else some (⟨hd / 8, 2, 0, s.extract r.2 (r.2 + r.1.toNat)⟩, r.2 + r.1.toNat) by rw [Hf.out, bodyS, if_neg k0, if_neg k1, if_neg k5, if_pos K2.out])
                clear k0 k1 k5 k2
                go_wp2_with fail
                refine (take_any s n _ hs hn2).mono ?_
                rintro e w2 ⟨hcase, rfl⟩
                rcases hcase with ⟨u, n2, htk2, rfl⟩ | ⟨htk2, rfl⟩
                · obtain ⟨u0, u64, n21, n22⟩ := tk_bd htk2
                  have Htk2 := Lib.hid htk2
                  clear htk2 u64
                  by_cases hlong : (s.size : Int) - n2 < u
                  · have Hres := Lib.hid (show fieldS s p = none by rw [Hbd.out, Htk2.out]; simp only [Option.bind_some]; rw [if_pos hlong])
                    go_wp2
                    refine bodyPost_ret (v := .tuple #[.agg #[.int .i64 0, .int .i64 0, .int .u64 0, .string ⟨#[]⟩], .int .i64 0, .bool false]) (by simp [results, Try.results24, go_sem]) rfl ⟨?_, .inr ⟨Hres.out, ⟨0, 0, 0, ⟨#[]⟩⟩, _, rfl⟩⟩
                    exact ((Below.refl _ _).alloc (Nat.le_refl _) _).alloc (by simp) _
                  · obtain ⟨m, rfl⟩ := Int.eq_ofNat_of_zero_le u0
                    have Hres := Lib.hid (show fieldS s p = some (⟨hd / 8, 2, 0, s.extract n2 (n2 + m)⟩, n2 + m) by rw [Hbd.out, Htk2.out]; simp only [Option.bind_some]; rw [if_neg hlong]; rfl)
                    have hm1 : n2 + m ≤ s.size := by omega
                    have hgt : (m : Int) ≤ (s.size : Int) - n2 := by omega
                    have hm0 : (0 : Int) ≤ m := by omega
                    have hq0 : (0 : Int) ≤ n2 := by omega
                    go_wp2
                    refine bodyPost_ret (v := .tuple #[.agg #[.int .i64 (hd / 8), .int .i64 (hd % 8), .int .u64 0, .string (s.extract n2 (n2 + m))], .int .i64 ((n2 : Int) + m), .bool true]) (by simp [results, Try.results24, go_sem]) rfl ⟨?_, .inl ⟨_, _, Hres.out, by rw [K2.out]; rfl⟩⟩
                    exact ((Below.refl _ _).alloc (Nat.le_refl _) _).alloc (by simp) _
                · have Hres := Lib.hid (show fieldS s p = none by rw [Hbd.out, htk2]; rfl)
                  clear htk2
                  go_wp2
                  refine bodyPost_ret (v := .tuple #[.agg #[.int .i64 0, .int .i64 0, .int .u64 0, .string ⟨#[]⟩], .int .i64 0, .bool false]) (by simp [results, Try.results24, go_sem]) rfl ⟨?_, .inr ⟨Hres.out, ⟨0, 0, 0, ⟨#[]⟩⟩, _, rfl⟩⟩
                  exact ((Below.refl _ _).alloc (Nat.le_refl _) _).alloc (by simp) _
              · have q6 : (hd % 8 == 2) = false := by simp [k2]
                have Hres := Lib.hid (show fieldS s p = none by rw [Hf.out, bodyS, if_neg k0, if_neg k1, if_neg k5, if_neg k2])
                clear k0 k1 k5 k2
                go_wp2
                refine bodyPost_ret (v := .tuple #[.agg #[.int .i64 0, .int .i64 0, .int .u64 0, .string ⟨#[]⟩], .int .i64 0, .bool false]) (by simp [results, Try.results24, go_sem]) rfl ⟨?_, .inr ⟨Hres.out, ⟨0, 0, 0, ⟨#[]⟩⟩, _, rfl⟩⟩
                exact ((Below.refl _ _).alloc (Nat.le_refl _) _).alloc (by simp) _
end Go.Proofs.Ytkcnpnnflbibiaa

/- Lists of fields in memory. -/
namespace Go.Proofs.Ytkcnpnnflbibiaa
open Go.RowKit

theorem Try.info24 : (Try.prog.info? 24).map (fun i => (i.zero, i.size, i.bytes)) = some (some (.agg #[.int .i64 0, .int .i64 0, .int .u64 0, .string ⟨#[]⟩]), 4, 40) := by kernel_rfl

def Fd.cells (f : Fd) : List Value := [.int .i64 f.num, .int .i64 f.kind, .int .u64 f.u, .string f.b]
def flat (l : List Fd) : List Value := l.flatMap Fd.cells
theorem flat_cons (f : Fd) (l : List Fd) : flat (f :: l) = f.cells ++ flat l := by simp [flat]
theorem flat_append (a b : List Fd) : flat (a ++ b) = flat a ++ flat b := by simp [flat]
theorem flat_len (l : List Fd) : (flat l).length = l.length * 4 := by
  induction l with
  | nil => rfl
  | cons f l ih => rw [flat_cons, List.length_append, ih]; simp [Fd.cells]; omega
theorem flat_get (l : List Fd) (j i : Nat) (hi : i < 4) (f : Fd) (hj : l[j]? = some f) : (flat l)[4 * j + i]? = f.cells[i]? := by
  induction l generalizing j with
  | nil => simp at hj
  | cons g l ih =>
    cases j with
    | zero =>
      simp at hj
      subst hj
      rw [flat_cons, List.getElem?_append_left (by simp [Fd.cells]; omega)]; simp
    | succ j =>
      simp at hj
      have e : 4 * (j + 1) + i = g.cells.length + (4 * j + i) := by simp [Fd.cells]; omega
      rw [flat_cons, e, List.getElem?_append_right (by omega), show g.cells.length + (4 * j + i) - g.cells.length = 4 * j + i by omega]
      exact ih j hj

/-- The slice value '.slice A n c' reads as the fields l in the world w, below block B. -/
structure Flds (w : World) (B : Nat) (A : Option Addr) (n : Nat) (l : List Fd) : Prop where
  len : l.length = n
  small : n ≤ maxLen
  at_ : 0 < n → ∃ b off, A = some ⟨b, off, none⟩ ∧ b < B ∧ ∀ j f, l[j]? = some f → w.cell? ⟨b, off + 4 * j, none⟩ = some (.int .i64 f.num) ∧ w.cell? ⟨b, off + 4 * j + 1, none⟩ = some (.int .i64 f.kind) ∧ w.cell? ⟨b, off + 4 * j + 2, none⟩ = some (.int .u64 f.u) ∧ w.cell? ⟨b, off + 4 * j + 3, none⟩ = some (.string f.b)
theorem Flds.keep {w w' : World} {B B' n : Nat} {A : Option Addr} {l : List Fd} (h : Flds w B A n l) (hB : B ≤ B') (hk : ∀ p : Addr, p.block < B → w'.cell? p = w.cell? p) : Flds w' B' A n l :=
  ⟨h.len, h.small, fun hn => by
    obtain ⟨b, off, e, hb, hc⟩ := h.at_ hn
    refine ⟨b, off, e, by omega, fun j f hj => ?_⟩
    obtain ⟨c0, c1, c2, c3⟩ := hc j f hj
    exact ⟨(hk _ hb).trans c0, (hk _ hb).trans c1, (hk _ hb).trans c2, (hk _ hb).trans c3⟩⟩
theorem Flds.below {w w' : World} {B B' n : Nat} {A : Option Addr} {l : List Fd} (h : Flds w B A n l) (hb : Below B w w') (hB : B ≤ B') : Flds w' B' A n l := h.keep hB fun _ hp => hb.cell hp
theorem Flds.drewN {w : World} {B n : Nat} {A : Option Addr} {l : List Fd} (h : Flds w B A n l) (q : Nat) : Flds (w.drewN q) B A n l := h.keep (Nat.le_refl _) fun _ _ => rfl
theorem Flds.alloc {w : World} {B n : Nat} {A : Option Addr} {l : List Fd} (h : Flds w B A n l) (hB : B ≤ w.heap.size) (o : Obj) : Flds (w.alloc o) B A n l :=
  h.keep (Nat.le_refl _) fun p hp => World.cell?_alloc_lt w o p (by omega)

/-- The call's own list of fields. -/
def OwnF (w : World) (B : Nat) (v : Value) (l : List Fd) : Prop := w.ownsRow B 24 4 v l.length (flat l) ∧ l.length ≤ maxLen
theorem ownF_nil (w : World) (B : Nat) : OwnF w B (.slice none 0 0) [] := ⟨World.ownsRow_nil _ _ _ _, Nat.zero_le _⟩
theorem OwnF.form {w : World} {B : Nat} {v : Value} {l : List Fd} (h : OwnF w B v l) : ∃ A c, v = .slice A l.length c := by
  rcases h.1.2 with ⟨rfl, hn⟩ | ⟨g, cap, cur, rfl, _⟩
  · exact ⟨none, 0, by rw [hn]⟩
  · exact ⟨_, _, rfl⟩
theorem OwnF.flds {w : World} {B c n : Nat} {A : Option Addr} {l : List Fd} (h : OwnF w B (.slice A n c) l) (hn : n = l.length) : Flds w w.heap.size A n l := by
  subst hn
  refine ⟨rfl, h.2, fun hn => ?_⟩
  rcases h.1.2 with ⟨_, h0⟩ | ⟨g, cap, cur, e, _, hg, _⟩
  · omega
  · simp only [Value.slice.injEq] at e
    obtain ⟨rfl, _, rfl⟩ := e
    refine ⟨g, 0, rfl, (Array.getElem?_eq_some_iff.1 hg).1, fun j f hj => ?_⟩
    have hlt : j < l.length := by
      rcases Nat.lt_or_ge j l.length with h | h
      · exact h
      · rw [List.getElem?_eq_none h] at hj; cases hj
    have key : ∀ i, i < 4 → w.cell? ⟨g, 0 + 4 * j + i, none⟩ = f.cells[i]? := fun i hi => by
      rw [Nat.zero_add, h.1.cellAt (4 * j + i) (by omega), flat_get l j i hi f hj]
    exact ⟨key 0 (by omega), key 1 (by omega), key 2 (by omega), key 3 (by omega)⟩
theorem OwnF.below {w w' : World} {B : Nat} {v : Value} {l : List Fd} (h : OwnF w B v l) (hb : Below w.heap.size w w') : OwnF w' B v l := by
  refine ⟨⟨h.1.1, ?_⟩, h.2⟩
  rcases h.1.2 with h1 | ⟨g, cap, cur, e, hB, hg, r⟩
  · exact .inl h1
  · exact .inr ⟨g, cap, cur, e, hB, (hb.block g (Array.getElem?_eq_some_iff.1 hg).1).trans hg, r⟩
theorem OwnF.lower {w : World} {B B' : Nat} {v : Value} {l : List Fd} (h : OwnF w B v l) (hB : B' ≤ B) : OwnF w B' v l := by
  refine ⟨⟨h.1.1, ?_⟩, h.2⟩
  rcases h.1.2 with h1 | ⟨g, cap, cur, e, hb, r⟩
  · exact .inl h1
  · exact .inr ⟨g, cap, cur, e, by omega, r⟩

theorem OwnF.alloc {w : World} {B : Nat} {v : Value} {l : List Fd} (h : OwnF w B v l) (o : Obj) : OwnF (w.alloc o) B v l := h.below ((Below.refl _ _).alloc (Nat.le_refl _) o)
theorem OwnF.drewN {w : World} {B : Nat} {v : Value} {l : List Fd} (h : OwnF w B v l) (q : Nat) : OwnF (w.drewN q) B v l := ⟨h.1, h.2⟩
theorem heap_second (w : World) (a b : Obj) (k : Nat) (hk : k = w.heap.size + 1) : ((w.alloc a).alloc b).heap[k]? = some b := by
  subst hk
  have e1 : (w.alloc a).heap.size = w.heap.size + 1 := by simp
  have h1 := heap_alloc_new (w.alloc a) b
  rwa [e1] at h1
/-- One field more: the source is the field's own block. -/
theorem wpList_append_f1 {P : Program} (w : World) (f : Fd) {ops : Array Oper} {rest : List Oper} {o : Oper} {a : Act} {Q : Exit → Act → World → Prop} (hgd : o.guard = none) (s y : Operand) (t : TypeId)
    (ho : o.op = .call { callee := .builtin .append, args := #[s, y], argTypes := #[t, t] })
    (i : TypeInfo) (z : Value) (hzc : z.cells.size = 4) (ht : P.underlying t = some (.slice 24)) (hi : P.info? 24 = some i) (hz : i.zero = some z) (hsize : i.size = 4) (hby : i.bytes = 40)
    (B : Nat) (v : Value) (l : List Fd) (hs : a.eval s = v) (hown : OwnF w B v l) (g : Nat) (hx : a.eval y = .slice (some ⟨g, 0, none⟩) 1 1)
    (hg : w.heap[g]? = some (.cells #[.int .i64 f.num, .int .i64 f.kind, .int .u64 f.u, .string f.b] 24 (0, 0)))
    (hlen : (l.length + 1) * 40 ≤ 140737488355328) (hbase : B ≤ w.heap.size)
    (h : ∀ v' w', OwnF w' B v' (l ++ [f]) → w.grownBy w' v.ownBlock → wpList P ops Q rest (a.put o.dst v') w') : wpList P ops Q (o :: rest) a w := by
  obtain ⟨⟨c0, c1, c2, c3⟩, _⟩ := blk4 hg
  refine wpList_append_own _ hgd s y t ho B 24 i z 4 40 ht hi hz hsize hby hzc (by decide) v l.length (flat l) hs hown.1 ⟨g, 0, none⟩ 1 1 f.cells hx rfl ?_ ?_ (by unfold maxLen; omega) (by omega) hbase ?_
  · intro j u hj
    match j, hj with
    | 0, hj => simp [Fd.cells] at hj; subst hj; simpa [Addr.add] using c0
    | 1, hj => simp [Fd.cells] at hj; subst hj; simpa [Addr.add] using c1
    | 2, hj => simp [Fd.cells] at hj; subst hj; simpa [Addr.add] using c2
    | 3, hj => simp [Fd.cells] at hj; subst hj; simpa [Addr.add] using c3
    | j + 4, hj => simp [Fd.cells] at hj
  · intro u hu
    simp [Fd.cells] at hu
    rcases hu with rfl | rfl | rfl | rfl <;> rfl
  · intro v' w' h2 h3 _
    refine h v' w' ⟨?_, by simp; unfold maxLen; omega⟩ h3
    rw [flat_append, show flat [f] = f.cells by simp [flat]]
    simpa using h2
theorem OwnF.grown {a w w' : World} {B : Nat} {v : Value} {l : List Fd} (h : OwnF w B v l) (hb : Below B a w) (hg : w.grownBy w' v.ownBlock) (hB : B ≤ w.heap.size) : Below B a w' :=
  hb.grown hg hB fun k hk => (h.1.lt k hk).1
/-- What a call leaves that hands back a list of fields and an error. -/
def LstF (w : World) (l : List Fd) (err : Int) (e : Ending) (w' : World) : Prop :=
  ∃ A n c, e = .returned (.tuple #[.slice A n c, .int .i64 err]) ∧ n = l.length ∧ OwnF w' w.heap.size (.slice A n c) l ∧ Below w.heap.size w w'
end Go.Proofs.Ytkcnpnnflbibiaa

/- The walks: the reference's Fields. -/
namespace Go.Proofs.Ytkcnpnnflbibiaa
open Go.RowKit

/-- What the fields of any bytes are: three ways. -/
def FdsIs (s : ByteArray) (l : List Fd) (err : Int) : Prop :=
  (16777216 < s.size ∧ l = [] ∧ err = 6) ∨ (s.size ≤ 16777216 ∧ fieldsS s 0 = none ∧ l = [] ∧ err = 3) ∨ (s.size ≤ 16777216 ∧ fieldsS s 0 = some l ∧ err = 0)
theorem fdsIs_any (s : ByteArray) : ∃ l err, FdsIs s l err := by
  by_cases h : 16777216 < s.size
  · exact ⟨_, _, .inl ⟨h, rfl, rfl⟩⟩
  · cases e : fieldsS s 0 with
    | none => exact ⟨_, _, .inr (.inl ⟨by omega, e, rfl, rfl⟩)⟩
    | some l => exact ⟨_, _, .inr (.inr ⟨by omega, e, rfl⟩)⟩
theorem lstF_ret {x l : List Fd} {err e2 : Int} {w w' : World} {A : Option Addr} {n c : Nat} (ho : OwnF w' w.heap.size (.slice A n c) x) (hn : n = x.length) (hb : Below w.heap.size w w') (h1 : x = l) (h2 : e2 = err) : LstF w l err (.returned (.tuple #[.slice A n c, .int .i64 e2])) w' := by
  subst h1 h2; exact ⟨_, _, _, rfl, hn, ho, hb⟩

set_option maxRecDepth 100000 in
set_option maxHeartbeats 1600000 in
theorem rfields_any (s : ByteArray) (w : World) (hs : s.size ≤ 140737488351232) (l : List Fd) (err : Int) (h : FdsIs s l err) :
    Calls Try.prog 10 #[.string s] w (LstF w l err) := by
  obtain ⟨i0, hi, hz0, hz1, hz2⟩ := info_parts Try.info24
  have H := Lib.hid h
  by_cases hbig : 16777216 < s.size
  · have e : l = [] ∧ err = 6 := by
      rcases h with ⟨_, h⟩ | ⟨h, _⟩ | ⟨h, _⟩
      · exact h
      · omega
      · omega
    obtain ⟨rfl, rfl⟩ := e
    clear h H
    go_enter Try.func10, Try.ntmps10
    go_wp2
    go_ret2
    exact lstF_ret (ownF_nil _ _) rfl (Below.refl _ _) rfl rfl
  · clear h
    go_enter Try.func10, Try.ntmps10
    go_wp2_with fail
    go_loopw [4, 5] (fun v i wr => ∃ p : Nat, ∃ x : List Fd, p ≤ s.size ∧ i = .int .i64 p ∧ x.length ≤ p ∧ (fieldsS s p).map (x ++ ·) = fieldsS s 0 ∧ OwnF wr w.heap.size v x ∧ Below w.heap.size w wr) (fun _ i _ => s.size - (intOf i).toNat)
    case atStart => exact ⟨0, [], by omega, rfl, by simp, by simp, ownF_nil _ _, Below.refl _ _⟩
    case round =>
      obtain ⟨p, x, hp, rfl, hxl, hr, ho, hb⟩ := hrel
      have Hr := Lib.hid hr
      have hsz := hb.size
      clear hr
      by_cases hlt : p < s.size
      · go_wp2_with fail
        refine (rfield_any s p _ hs hp).mono ?_
        rintro e w1 ⟨hb1, ⟨f, n, hf, rfl⟩ | ⟨hf, g, m, rfl⟩⟩
        · have hbd := fieldS_bd hf
          have Hf := Lib.hid hf
          have ho1 := ho.below hb1
          have hb01 := hb.trans (hb1.mono hsz)
          have z1 := hb1.size
          clear hf ho hb
          obtain ⟨num, kind, u, b⟩ := f
          unfold Fd.val
          have Hmore := Lib.hid (fields_more hlt Hf.out Hr.out)
          go_wp2_with (at_builtin; refine wpList_append_f1 _ ⟨num, kind, u, b⟩ rfl (.tmp 25) (.tmp 27) 29 rfl i0 _ rfl Try.underlying29 hi hz0 hz1 hz2 w.heap.size _ x rfl ((ho1.alloc _).alloc _) (w1.heap.size + 1) rfl (heap_second _ _ _ _ rfl) (by omega) (by simp; omega) ?_; intro v' w2 ho2 hg2)
          go_roundw
          case rel => exact ⟨n, x ++ [⟨num, kind, u, b⟩], hbd.2, rfl, by simp; omega, Hmore.out, ho2, ((ho1.alloc _).alloc _).grown ((hb01.alloc (by omega) _).alloc (by simp; omega) _) hg2 (by simp; omega)⟩
          case measure => simp [intOf]; omega
        · have He : Hid (l = [] ∧ err = 3) := by
            have e0 := Hr.out
            rw [fields_bad hlt hf] at e0
            rcases H.out with ⟨h, _⟩ | ⟨_, _, h⟩ | ⟨_, h, _⟩
            · omega
            · exact h
            · rw [← e0] at h; simp at h
          clear hf
          have hb01 := hb.trans (hb1.mono hsz)
          have z1 := hb1.size
          obtain ⟨num, kind, u, b⟩ := g
          unfold Fd.val
          go_wp2
          go_ret2
          obtain ⟨rfl, rfl⟩ := He.out
          exact lstF_ret (ownF_nil _ _) rfl (hb01.alloc (by omega) _) rfl rfl
      · have He : Hid (x = l ∧ 0 = err) := by
          have e0 := Hr.out
          rw [fields_end hlt] at e0
          rcases H.out with ⟨h, _⟩ | ⟨_, h, _⟩ | ⟨_, h, rfl⟩
          · omega
          · rw [← e0] at h; simp at h
          · rw [← e0] at h; simp at h; exact ⟨h, rfl⟩
        go_wp2
        obtain ⟨A, c, rfl⟩ := ho.form
        go_ret2
        exact lstF_ret ho rfl hb He.out.1 He.out.2
end Go.Proofs.Ytkcnpnnflbibiaa
