/- The walks: few and short, by the reference. -/
import Derived.Test.YtkcnpnnflbibiaaHd
set_option linter.unusedVariables false
namespace Go.Proofs.Ytkcnpnnflbibiaa
open Go.RowKit

set_option maxRecDepth 100000 in
set_option maxHeartbeats 1600000 in
theorem rfew_any (name : ByteArray) (A A2 A3 A4 : Option Addr) (n c n2 c2 n3 c3 n4 c4 : Nat) (w : World) (h : n2 + n4 + n ≤ 9223372036854775807) :
    Calls Try.prog 39 #[.agg #[.string name, .slice A n c, .slice A2 n2 c2, .slice A3 n3 c3, .slice A4 n4 c4]] w fun e w' => e = .returned (.bool (fewB name.size n n2 n3 n4)) ∧ Below w.heap.size w w' := by
  have hb : Below w.heap.size w (w.alloc (.cells #[.string name, .slice A n c, .slice A2 n2 c2, .slice A3 n3 c3, .slice A4 n4 c4] 34)) := (Below.refl _ _).alloc (Nat.le_refl _) _
  have Hb := Lib.hid hb
  clear hb
  by_cases h1 : name.size ≤ 100
  · by_cases h2 : n ≤ 1000
    · by_cases h3 : n2 + n4 + n ≤ 3000
      · by_cases h4 : n3 ≤ 3000
        · have Hr := Lib.hid (show fewB name.size n n2 n3 n4 = true by simp [fewB, h1, h2, h3, h4])
          go_enter Try.func39, Try.ntmps39
          go_wp2
          go_ret
          exact ⟨boo_ret (by rw [Hr.out]; simp; omega), Hb.out⟩
        · have Hr := Lib.hid (show fewB name.size n n2 n3 n4 = false by simp [fewB, h4])
          go_enter Try.func39, Try.ntmps39
          go_wp2
          go_ret
          exact ⟨boo_ret (by rw [Hr.out]; simp; omega), Hb.out⟩
      · have Hr := Lib.hid (show fewB name.size n n2 n3 n4 = false by simp [fewB, h3])
        go_enter Try.func39, Try.ntmps39
        go_wp2
        go_ret
        exact ⟨boo_ret (by rw [Hr.out]), Hb.out⟩
    · have Hr := Lib.hid (show fewB name.size n n2 n3 n4 = false by simp [fewB, h2])
      go_enter Try.func39, Try.ntmps39
      go_wp2
      go_ret
      exact ⟨boo_ret (by rw [Hr.out]), Hb.out⟩
  · have Hr := Lib.hid (show fewB name.size n n2 n3 n4 = false by simp [fewB, h1])
    go_enter Try.func39, Try.ntmps39
    go_wp2
    go_ret
    exact ⟨boo_ret (by rw [Hr.out]), Hb.out⟩
set_option maxRecDepth 100000 in
set_option maxHeartbeats 1600000 in
theorem rshort_any (op name out : ByteArray) (ins : List ByteArray) (A A2 : Option Addr) (n c m c2 : Nat) (w : World) (Z : Nat → Prop) (h : Slc repStr w Z A n ins) (hZ : ∀ k, Z k → k < w.heap.size) (hm : m ≤ maxLen) :
    Calls Try.prog 40 #[.agg #[.string op, .string name, .slice A n c, .string out, .slice A2 m c2]] w fun e w' => e = .returned (.bool (shortB op.size name.size out.size ins m)) ∧ Below w.heap.size w w' := by
  have hb : Below w.heap.size w (w.alloc (.cells #[.string op, .string name, .slice A n c, .string out, .slice A2 m c2] 67)) := (Below.refl _ _).alloc (Nat.le_refl _) _
  have hn : n ≤ 9223372036854775807 := h.small
  have hm' : m ≤ 9223372036854775807 := hm
  have H := Lib.hid (h.keep (fun k hk => hb.block k (hZ k hk)) (fun _ h => h) : Slc repStr (w.alloc (.cells #[.string op, .string name, .slice A n c, .string out, .slice A2 m c2] 67)) Z A n ins)
  have Hl := Lib.hid h.len
  have Hb := Lib.hid hb
  have hg := heap_alloc_new w (.cells #[.string op, .string name, .slice A n c, .string out, .slice A2 m c2] 67)
  have x0 : (w.alloc (.cells #[.string op, .string name, .slice A n c, .string out, .slice A2 m c2] 67)).cell? ⟨w.heap.size, 0, none⟩ = some (.string op) := cell_of_row _ _ 0 _ 67 (0, 0) hg
  have x1 : (w.alloc (.cells #[.string op, .string name, .slice A n c, .string out, .slice A2 m c2] 67)).cell? ⟨w.heap.size, 1, none⟩ = some (.string name) := cell_of_row _ _ 1 _ 67 (0, 0) hg
  have x2 : (w.alloc (.cells #[.string op, .string name, .slice A n c, .string out, .slice A2 m c2] 67)).cell? ⟨w.heap.size, 2, none⟩ = some (.slice A n c) := cell_of_row _ _ 2 _ 67 (0, 0) hg
  have x3 : (w.alloc (.cells #[.string op, .string name, .slice A n c, .string out, .slice A2 m c2] 67)).cell? ⟨w.heap.size, 3, none⟩ = some (.string out) := cell_of_row _ _ 3 _ 67 (0, 0) hg
  have x4 : (w.alloc (.cells #[.string op, .string name, .slice A n c, .string out, .slice A2 m c2] 67)).cell? ⟨w.heap.size, 4, none⟩ = some (.slice A2 m c2) := cell_of_row _ _ 4 _ 67 (0, 0) hg
  clear hb h hm hg hZ
  go_enter Try.func40, Try.ntmps40
  go_wp2_with fail
  go_loop [3] (fun i => ∃ k : Nat, k ≤ n ∧ i = .int .i64 k ∧ ∀ s ∈ ins.take k, s.size ≤ 100) (fun i => n - (intOf i).toNat)
  case atStart => exact ⟨0, Nat.zero_le _, rfl, fun s hs => by simp at hs⟩
  case round =>
    obtain ⟨k, hk, rfl, hall⟩ := hrel
    have Hall := Lib.hid hall
    clear hall
    by_cases hlt : k < n
    · obtain ⟨b, off, x, cs, hA, hb, hx, hr, hi⟩ := H.out.get hlt
      have hcs : cs = [.string x] := hr
      have h0 := hi 0 (by decide)
      rw [hcs] at h0
      have c0 : (w.alloc (.cells #[.string op, .string name, .slice A n c, .string out, .slice A2 m c2] 67)).cell? ⟨b, off + k, none⟩ = some (.string x) := by simpa [repStr] using h0
      have Hx := Lib.hid hx
      clear hi h0 hr hcs hx H
      subst hA
      by_cases hs : 100 < x.size
      · have hd : decide ((100 : Int) < x.size) = true := by simp; omega
        have Hr := Lib.hid (show shortB op.size name.size out.size ins m = false by
          have : ¬ AllShort ins := fun hp => by have := hp x (List.mem_of_getElem? Hx.out); omega
          simp [shortB, this])
        clear hs
        go_wp2
        go_ret
        exact ⟨boo_ret (by rw [Hr.out]), Hb.out⟩
      · have hd : decide ((100 : Int) < x.size) = false := by simp; omega
        have Hs := Lib.hid hs
        clear hs
        go_wp2
        go_round
        case rel => exact ⟨k + 1, by omega, by go_num, fun s hm => by
          rw [List.take_add_one, Hx.out] at hm
          rcases List.mem_append.1 hm with hm | hm
          · exact Hall.out s hm
          · simp at hm; subst hm; have := Hs.out; omega⟩
        case measure => simp [intOf]; omega
    · obtain rfl : k = n := by omega
      have Ha := Lib.hid (show AllShort ins by have := Hall.out; rw [← Hl.out, List.take_length] at this; exact this)
      clear hlt hk
      by_cases h1 : name.size ≤ 100
      · have d1 : decide ((name.size : Int) ≤ 100) = true := by simp; omega
        by_cases h2 : op.size ≤ 100
        · have d2 : decide ((op.size : Int) ≤ 100) = true := by simp; omega
          by_cases h3 : out.size ≤ 100
          · have d3 : decide ((out.size : Int) ≤ 100) = true := by simp; omega
            by_cases h4 : k ≤ 20
            · have d4 : decide ((k : Int) ≤ 20) = true := by simp; omega
              by_cases h5 : m ≤ 20
              · have d5 : decide ((m : Int) ≤ 20) = true := by simp; omega
                go_wp2
                all_goals
                  go_ret
                  exact ⟨boo_ret (by have := Ha.out; have e := Hl.out; simp [shortB, this, e, h1, h2, h3, h4, h5]), Hb.out⟩
              · have d5 : decide ((m : Int) ≤ 20) = false := by simp; omega
                go_wp2
                all_goals
                  go_ret
                  exact ⟨boo_ret (by have := Ha.out; have e := Hl.out; simp [shortB, this, e, h1, h2, h3, h4, h5]), Hb.out⟩
            · have d4 : decide ((k : Int) ≤ 20) = false := by simp; omega
              go_wp2
              all_goals
                go_ret
                exact ⟨boo_ret (by have := Ha.out; have e := Hl.out; simp [shortB, this, e, h1, h2, h3, h4]), Hb.out⟩
          · have d3 : decide ((out.size : Int) ≤ 100) = false := by simp; omega
            go_wp2
            all_goals
              go_ret
              exact ⟨boo_ret (by have := Ha.out; have e := Hl.out; simp [shortB, this, e, h1, h2, h3]), Hb.out⟩
        · have d2 : decide ((op.size : Int) ≤ 100) = false := by simp; omega
          go_wp2
          all_goals
            go_ret
            exact ⟨boo_ret (by have := Ha.out; have e := Hl.out; simp [shortB, this, e, h1, h2]), Hb.out⟩
      · have d1 : decide ((name.size : Int) ≤ 100) = false := by simp; omega
        go_wp2
        all_goals
          go_ret
          exact ⟨boo_ret (by have := Ha.out; have e := Hl.out; simp [shortB, this, e, h1]), Hb.out⟩
end Go.Proofs.Ytkcnpnnflbibiaa
