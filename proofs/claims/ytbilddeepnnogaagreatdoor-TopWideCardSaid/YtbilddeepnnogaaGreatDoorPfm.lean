import Derived.Test.YtbilddeepnnogaaGreatDoorPam
import Derived.Test.YtbilddeepnnogaaGreatDoorEbm
set_option linter.unusedVariables false
set_option linter.unusedSimpArgs false
/- Layer 5: what is read of a message: its fields, a dimension, a part. -/
section
set_option linter.unusedVariables false
set_option maxRecDepth 100000
namespace Go.Proofs.YtbilddeepnnogaaGreatDoor
open Go.RowKit Go.Shelf

/-- The slice at A holds the fields. -/
def FlR (w : World) (A : Option Addr) (l : List Fd) : Prop := ∃ b off, A = some ⟨b, off, none⟩ ∧ b < w.heap.size ∧ ∀ j f, l[j]? = some f → w.cell? ⟨b, off + j * 4, none⟩ = some (.int .i64 f.num) ∧ w.cell? ⟨b, off + j * 4 + 1, none⟩ = some (.int .i64 f.kind) ∧ w.cell? ⟨b, off + j * 4 + 2, none⟩ = some (.int .u64 f.u) ∧ w.cell? ⟨b, off + j * 4 + 3, none⟩ = some (.string f.b)
theorem FlR.stay {w w' : World} {A : Option Addr} {l : List Fd} (h : FlR w A l) (N : Nat) (hN : ∀ b off, A = some ⟨b, off, none⟩ → b < N) (hk : ∀ k, k < w.heap.size → k < N → w'.heap[k]? = w.heap[k]?) (hs : w.heap.size ≤ w'.heap.size) : FlR w' A l := by
  obtain ⟨b, off, rfl, h1, h2⟩ := h
  have e : ∀ o, w'.cell? ⟨b, o, none⟩ = w.cell? ⟨b, o, none⟩ := fun o => World.cell?_of_block (a := ⟨b, o, none⟩) (hk b h1 (hN b off rfl))
  refine ⟨b, off, rfl, Nat.lt_of_lt_of_le h1 hs, fun j f hj => ?_⟩
  obtain ⟨a0, a1, a2, a3⟩ := h2 j f hj
  exact ⟨(e _).trans a0, (e _).trans a1, (e _).trans a2, (e _).trans a3⟩
theorem FlR.since {w w' : World} {A : Option Addr} {l : List Fd} (h : FlR w A l) (hs : Since w w') : FlR w' A l :=
  h.stay w.heap.size (fun b off e => by obtain ⟨b', off', e', h1, -⟩ := h; rw [e] at e'; cases e'; exact h1) (fun k hk _ => hs.block k hk) hs.size
theorem flds93 (l : List Fd) (hg : ∀ f ∈ l, FdG f) (h0 : 0 < l.length) (hl : l.length ≤ 100) (w : World) :
    Calls Tryz.prog 93 #[.string (textB l)] w fun e w' => ∃ A c, e = .returned (.slice A l.length c) ∧ FlR w' A l ∧ (∀ b off, A = some ⟨b, off, none⟩ → w.heap.size ≤ b) ∧ Since w w' := by
  have hb := bulk_le hg
  have ht := text_le l
  have hE : fldsE (textB l) = .ok l := by
    unfold fldsE
    rw [if_neg (by omega), fields_text l (fun f hf => (hg f hf).good) (fun f hf => (hg f hf).ok)]
  refine (fields_any (textB l) w (by omega)).mono ?_
  rintro e w' ⟨hs, ⟨l', A, c, h1, rfl, ho⟩ | ⟨err, h1, -⟩⟩
  · rw [hE] at h1
    cases h1
    obtain ⟨b, off, rfl, hlt, hc⟩ := (ho.flds rfl).at_ h0
    refine ⟨_, c, rfl, ⟨b, off, rfl, hlt, fun j f hj => ?_⟩, fun b' off' e => ?_, hs⟩
    · have := hc j f hj
      rw [Nat.mul_comm 4 j] at this
      exact this
    · cases e
      exact (ho.1.lt b rfl).1
  · rw [hE] at h1
    cases h1
theorem txt94 (n : Int) (s : ByteArray) (w : World) : Calls Tryz.prog 94 #[.agg #[.int .i64 n, .int .i64 2, .int .u64 0, .string s]] w fun e w' => e = .returned (.string s) ∧ Since w w' := text_yes n 0 s w
theorem var165 (n u : Int) (h1 : 0 ≤ u) (h2 : u < 1000000) (w : World) : Calls Tryz.prog 165 #[.agg #[.int .i64 n, .int .i64 0, .int .u64 u, .string ⟨#[]⟩]] w fun e w' => e = .returned (.int .i64 u) ∧ Since w w' := (varint_yes n u ⟨#[]⟩ w).mono fun e w' h => by
  obtain ⟨rfl, hs⟩ := h
  refine ⟨?_, hs⟩
  unfold i64
  rw [show wrap64 u = u by unfold wrap64; omega]
set_option maxHeartbeats 1600000 in
theorem dim170 (x : Nat) (h : x ≤ 30) (w : World) : Calls Tryz.prog 170 #[.string (textB [vF 1 x])] w fun e w' => e = .returned (.int .i64 x) ∧ Since w w' := by
  have HF := Lib.hid (flds93 [vF 1 (x : Int)] (one_ok h) (by simp) (by simp) w)
  have HV := Lib.hid (fun W => var165 1 (x : Int) (by omega) (by omega) W)
  have ht : ∀ b : Bool, b = true ∨ b = false := fun b => by cases b <;> simp
  go_enter Tryz.func170, Tryz.ntmps170
  go_wp2_with fail
  refine HF.out.mono ?_
  rintro e w1 ⟨A, c, rfl, ⟨b, off, rfl, hb, hc⟩, -, hs1⟩
  obtain ⟨c0, c1, c2, c3⟩ := hc 0 _ rfl
  simp only [Nat.zero_mul, Nat.add_zero] at c0 c1 c2 c3
  have HS1 := Lib.hid hs1
  clear hc hs1 ht
  go_wp2_with fail
  refine wp_loop_rounds 2 ?_
  rw [rounds_succ]
  go_wp2_with fail
  refine newX (F := fun W => Calls _ _ _ W _) ?_
  intro w2 h2
  have HS2 := Lib.hid (HS1.out.trans h2.below)
  clear h2 c0 c1 c2 c3
  refine (HV.out _).mono ?_
  rintro e w3 ⟨rfl, hs3⟩
  have HS3 := Lib.hid (HS2.out.trans hs3)
  clear hs3
  go_wp2_with fail
  rw [rounds_succ]
  go_wp2_with (go_at_call 14; refine (must_yes _ _).mono ?_; rintro e w4 ⟨rfl, rfl⟩)
  go_ret
  exact ⟨rfl, HS3.out⟩
end Go.Proofs.YtbilddeepnnogaaGreatDoor
end
/- Layer 5: a part of a message. -/
section
set_option linter.unusedVariables false
set_option maxRecDepth 100000
namespace Go.Proofs.YtbilddeepnnogaaGreatDoor
open Go.RowKit Go.Shelf

theorem pass50 (v : Fd) (w : World) : Calls Tryz.prog 50 #[.agg #[.int .i64 v.num, .int .i64 v.kind, .int .u64 v.u, .string v.b]] w fun e w' => e = .returned (.tuple #[]) ∧ Since w w' := by
  go_enter Tryz.func50, Tryz.ntmps50
  go_wp2_with fail
  go_end0
  exact ⟨rfl, (Below.refl _ _).alloc (Nat.le_refl _) _⟩
set_option maxHeartbeats 1600000 in
theorem joinedP (l : List Fd) (at_ : Int) (p : Nat) (s : ByteArray) (hg : ∀ f ∈ l, FdG f) (hp : l[p]? = some (tF at_ s)) (ho : ∀ j f, l[j]? = some f → j ≠ p → f.num ≠ at_) (hl : l.length ≤ 10) (w : World) :
    Calls Tryz.prog 49 #[.string (textB l), .int .i64 at_, .func (.func 50) #[] #[]] w fun e w' => e = .returned (.tuple #[.string s, .bool true]) ∧ Since w w' := by
  have hpl : p < l.length := (List.getElem?_eq_some_iff.1 hp).1
  have hs : s.size ≤ 10000 := (hg _ (List.mem_of_getElem? hp)).2.2.1
  have HF := Lib.hid (flds93 l hg (by omega) (by omega) w)
  have HP := Lib.hid hp
  have HO := Lib.hid ho
  have hcc : (⟨#[]⟩ : ByteArray) ++ s = s := nil_app s
  have HCC := Lib.hid hcc
  have hsz : ¬ 9223372036854775807 < (⟨#[]⟩ : ByteArray).size + s.size := by have : (⟨#[]⟩ : ByteArray).size = 0 := rfl; omega
  clear hg hp ho hcc
  go_enter Tryz.func49, Tryz.ntmps49
  go_wp2_with fail
  refine HF.out.mono ?_
  rintro e w1 ⟨A, c, rfl, hfl, -, hs1⟩
  have HS1 := Lib.hid hs1
  have HFL := Lib.hid hfl
  clear hs1 hfl
  go_wp2_with fail
  go_loopw [8, 9, 15] (fun b had i wr => ∃ k : Nat, k ≤ l.length ∧ i = .int .i64 k ∧ Since w1 wr ∧ ((k ≤ p ∧ b = .string ⟨#[]⟩ ∧ had = .bool false) ∨ (p < k ∧ b = .string s ∧ had = .bool true))) (fun _ _ i _ => l.length - (intOf i).toNat)
  case atStart => exact ⟨0, Nat.zero_le _, rfl, Since.refl _, .inl ⟨Nat.zero_le _, rfl, rfl⟩⟩
  case round =>
    obtain ⟨k, hk, rfl, hsw, hc⟩ := hrel
    have HSW := Lib.hid hsw
    by_cases hlt : k < l.length
    · obtain ⟨f, hf⟩ : ∃ f, l[k]? = some f := ⟨_, List.getElem?_eq_getElem hlt⟩
      obtain ⟨b, off, rfl, hb, hcc⟩ := HFL.out.since hsw
      obtain ⟨c0, c1, c2, c3⟩ := hcc k f hf
      have hki : (k : Int) < l.length := by omega
      have HFF := Lib.hid hf
      clear hcc hf hsw
      by_cases hkp : k = p
      · subst hkp
        rcases hc with ⟨h1, rfl, rfl⟩ | ⟨h1, -, -⟩
        · obtain rfl : f = tF at_ s := by
            have := HFF.out
            rw [HP.out] at this
            cases this
            rfl
          dsimp only at c0 c1 c2 c3
          have ht : (at_ == at_) = true := by simp
          clear h1
          go_wp2_with fail
          refine newX (F := fun W => Calls _ _ _ W _) ?_
          intro w2 h2
          have HS2 := Lib.hid (HSW.out.trans h2.below)
          clear h2 c0 c1 c2 c3
          refine (txt94 at_ s _).mono ?_
          rintro e w3 ⟨rfl, hs3⟩
          have HS3 := Lib.hid (HS2.out.trans hs3)
          clear hs3
          go_wp2_with fail
          refine ⟨⟨k + 1, by omega, by go_num, HS3.out, .inr ⟨by omega, by rw [HCC.out], rfl⟩⟩, by simp [intOf]; omega⟩
        · omega
      · have hne := HO.out k f HFF.out hkp
        have ht : (f.num == at_) = false := beq_false_of_ne hne
        rcases hc with ⟨h1, rfl, rfl⟩ | ⟨h1, rfl, rfl⟩
        all_goals
          go_wp2_with fail
          refine newX (F := fun W => Calls _ _ _ W _) ?_
          intro w2 h2
          have HS2 := Lib.hid (HSW.out.trans h2.below)
          clear h2 c0 c1 c2 c3
          refine (pass50 f _).mono ?_
          rintro e w3 ⟨rfl, hs3⟩
          have HS3 := Lib.hid (HS2.out.trans hs3)
          clear hs3
          go_wp2_with fail
        · exact ⟨⟨k + 1, by omega, by go_num, HS3.out, .inl ⟨by omega, rfl, rfl⟩⟩, by simp [intOf]; omega⟩
        · exact ⟨⟨k + 1, by omega, by go_num, HS3.out, .inr ⟨by omega, rfl, rfl⟩⟩, by simp [intOf]; omega⟩
    · obtain rfl : k = l.length := by omega
      rcases hc with ⟨h1, -, -⟩ | ⟨h1, rfl, rfl⟩
      · omega
      · clear hsw h1
        go_wp2_with fail
        go_ret2
        exact ⟨rfl, HS1.out.trans HSW.out⟩
set_option maxHeartbeats 800000 in
theorem name168 (s n0 : ByteArray) (x y : Value) (gv : Nat) (w : World) (hr : w.heap[gv]? = some (.cells #[.string n0, x, y] 28 (0, 0))) :
    Calls Tryz.prog 168 #[.agg #[.int .i64 1, .int .i64 2, .int .u64 0, .string s], .pointer (some ⟨gv, 0, none⟩)] w fun e w' => e = .returned (.tuple #[]) ∧ Only gv w w' ∧ w'.heap[gv]? = some (.cells #[.string s, x, y] 28 (0, 0)) := by
  have HR := Lib.hid hr
  clear hr
  go_enter Tryz.func168, Tryz.ntmps168
  go_wp2_with fail
  refine newX (F := fun W => Calls _ _ _ W _) ?_
  intro w2 h2
  have HS2 := Lib.hid h2.below
  clear h2
  refine (txt94 1 s _).mono ?_
  rintro e w3 ⟨rfl, hs3⟩
  have hs := Since.trans HS2.out hs3
  have hr := hs.kp HR.out
  have g0 := cell_of_row _ _ 0 _ 28 (0, 0) hr
  have f0 := frozen_row hr 0
  have HH := Lib.hid (And.intro hs hr)
  clear hs3 hs hr
  go_wp2_with fail
  go_end0
  exact ⟨rfl, (only_of_since gv HH.out.1).set_ _ _, by simpa using heap_setCell_same w3 gv 0 _ 28 (.string s) HH.out.2⟩
set_option maxHeartbeats 800000 in
theorem typ169 (u n0 : Int) (h1 : 0 ≤ u) (h2 : u < 1000000) (gv : Nat) (w : World) (hr : w.heap[gv]? = some (.cells #[.int .i64 n0] 2 (0, 0))) :
    Calls Tryz.prog 169 #[.agg #[.int .i64 1, .int .i64 0, .int .u64 u, .string ⟨#[]⟩], .pointer (some ⟨gv, 0, none⟩)] w fun e w' => e = .returned (.tuple #[]) ∧ Only gv w w' ∧ w'.heap[gv]? = some (.cells #[.int .i64 u] 2 (0, 0)) := by
  have HR := Lib.hid hr
  have HV := Lib.hid (fun W => var165 1 u h1 h2 W)
  clear hr
  go_enter Tryz.func169, Tryz.ntmps169
  go_wp2_with fail
  refine newX (F := fun W => Calls _ _ _ W _) ?_
  intro w2 h2
  have HS2 := Lib.hid h2.below
  clear h2
  refine (HV.out _).mono ?_
  rintro e w3 ⟨rfl, hs3⟩
  have hs := Since.trans HS2.out hs3
  have hr := hs.kp HR.out
  have g0 := cell_of_row _ _ 0 _ 2 (0, 0) hr
  have f0 := frozen_row hr 0
  have HH := Lib.hid (And.intro hs hr)
  clear hs3 hs hr
  go_wp2_with fail
  go_end0
  exact ⟨rfl, (only_of_since gv HH.out.1).set_ _ _, by simpa using heap_setCell_same w3 gv 0 _ 2 (.int .i64 u) HH.out.2⟩
set_option maxHeartbeats 1600000 in
theorem joinedN (s n0 : ByteArray) (x y : Value) (t : ByteArray) (gv : Nat) (hg : ∀ f ∈ [tF 1 s] ++ [tF 2 t], FdG f) (w : World) (hr : w.heap[gv]? = some (.cells #[.string n0, x, y] 28 (0, 0))) :
    Calls Tryz.prog 49 #[.string (textB ([tF 1 s] ++ [tF 2 t])), .int .i64 2, .func (.func 168) #[] #[.pointer (some ⟨gv, 0, none⟩)]] w fun e w' => e = .returned (.tuple #[.string t, .bool true]) ∧ Only gv w w' ∧ w'.heap[gv]? = some (.cells #[.string s, x, y] 28 (0, 0)) := by
  have ht : t.size ≤ 10000 := (hg _ (List.mem_append_right _ (List.mem_singleton.2 rfl))).2.2.1
  have HF := Lib.hid (flds93 _ hg (by simp) (by simp) w)
  have hcc : (⟨#[]⟩ : ByteArray) ++ t = t := nil_app t
  have HCC := Lib.hid hcc
  have hsz : ¬ 9223372036854775807 < (⟨#[]⟩ : ByteArray).size + t.size := by have : (⟨#[]⟩ : ByteArray).size = 0 := rfl; omega
  have hgv : gv < w.heap.size := (Array.getElem?_eq_some_iff.1 hr).1
  have HR := Lib.hid hr
  have HG := Lib.hid hg
  clear hg hcc hr
  go_enter Tryz.func49, Tryz.ntmps49
  go_wp2_with fail
  refine HF.out.mono ?_
  rintro e w1 ⟨A, c, rfl, ⟨b, off, rfl, hb, hc⟩, hbA, hs1⟩
  have hbw := hbA _ _ rfl
  obtain ⟨c0, c1, c2, c3⟩ := hc 0 _ rfl
  obtain ⟨d0, d1, d2, d3⟩ := hc 1 _ rfl
  simp only [Nat.zero_mul, Nat.add_zero, Nat.one_mul] at c0 c1 c2 c3 d0 d1 d2 d3
  have HS1 := Lib.hid hs1
  have HD := Lib.hid (And.intro d0 (And.intro d1 (And.intro d2 d3)))
  clear hc hbA hs1 d0 d1 d2 d3
  simp only [List.length_append, List.length_singleton]
  go_wp2_with fail
  refine wp_loop_rounds 3 ?_
  rw [rounds_succ]
  go_wp2_with fail
  refine newX (F := fun W => Calls _ _ _ W _) ?_
  intro w2 h2
  have hs2 := HS1.out.trans h2.below
  have HS2 := Lib.hid hs2
  have HB2 := Lib.hid h2.below
  have hcall := name168 s n0 x y gv w2 (hs2.kp HR.out)
  clear h2 hs2 c0 c1 c2 c3
  refine hcall.mono ?_
  rintro e w3 ⟨rfl, ho3, hr3⟩
  have ce : ∀ o v, w1.cell? ⟨b, o, none⟩ = some v → w3.cell? ⟨b, o, none⟩ = some v := fun o v hv => (World.cell?_of_block (a := ⟨b, o, none⟩) (ho3.block b (Nat.lt_of_lt_of_le hb HB2.out.size) (by omega))).trans ((HB2.out.cell (p := ⟨b, o, none⟩) hb).trans hv)
  have d0 := ce _ _ HD.out.1
  have d1 := ce _ _ HD.out.2.1
  have d2 := ce _ _ HD.out.2.2.1
  have d3 := ce _ _ HD.out.2.2.2
  have HO3 := Lib.hid ((only_of_since gv HS2.out).trans ho3)
  have HR3 := Lib.hid hr3
  clear ce ho3 hr3 hcall
  go_wp2_with fail
  rw [rounds_succ]
  go_wp2_with fail
  refine newX (F := fun W => Calls _ _ _ W _) ?_
  intro w4 h4
  have HS4 := Lib.hid h4.below
  clear h4 d0 d1 d2 d3
  refine (txt94 2 t _).mono ?_
  rintro e w5 ⟨rfl, hs5⟩
  have HS5 := Lib.hid (Since.trans HS4.out hs5)
  clear hs5
  go_wp2_with fail
  rw [rounds_succ]
  go_wp2_with fail
  go_ret2
  exact ⟨by rw [HCC.out]; rfl, HO3.out.trans (only_of_since gv HS5.out), HS5.out.kp HR3.out⟩
set_option maxHeartbeats 1600000 in
theorem joinedT (u n0 : Int) (h1 : 0 ≤ u) (h2 : u < 1000000) (t : ByteArray) (gv : Nat) (hg : ∀ f ∈ [vF 1 u] ++ [tF 2 t], FdG f) (w : World) (hr : w.heap[gv]? = some (.cells #[.int .i64 n0] 2 (0, 0))) :
    Calls Tryz.prog 49 #[.string (textB ([vF 1 u] ++ [tF 2 t])), .int .i64 2, .func (.func 169) #[] #[.pointer (some ⟨gv, 0, none⟩)]] w fun e w' => e = .returned (.tuple #[.string t, .bool true]) ∧ Only gv w w' ∧ w'.heap[gv]? = some (.cells #[.int .i64 u] 2 (0, 0)) := by
  have ht : t.size ≤ 10000 := (hg _ (List.mem_append_right _ (List.mem_singleton.2 rfl))).2.2.1
  have HF := Lib.hid (flds93 _ hg (by simp) (by simp) w)
  have hcc : (⟨#[]⟩ : ByteArray) ++ t = t := nil_app t
  have HCC := Lib.hid hcc
  have hsz : ¬ 9223372036854775807 < (⟨#[]⟩ : ByteArray).size + t.size := by have : (⟨#[]⟩ : ByteArray).size = 0 := rfl; omega
  have hgv : gv < w.heap.size := (Array.getElem?_eq_some_iff.1 hr).1
  have HR := Lib.hid hr
  have HG := Lib.hid hg
  clear hg hcc hr
  go_enter Tryz.func49, Tryz.ntmps49
  go_wp2_with fail
  refine HF.out.mono ?_
  rintro e w1 ⟨A, c, rfl, ⟨b, off, rfl, hb, hc⟩, hbA, hs1⟩
  have hbw := hbA _ _ rfl
  obtain ⟨c0, c1, c2, c3⟩ := hc 0 _ rfl
  obtain ⟨d0, d1, d2, d3⟩ := hc 1 _ rfl
  simp only [Nat.zero_mul, Nat.add_zero, Nat.one_mul] at c0 c1 c2 c3 d0 d1 d2 d3
  have HS1 := Lib.hid hs1
  have HD := Lib.hid (And.intro d0 (And.intro d1 (And.intro d2 d3)))
  clear hc hbA hs1 d0 d1 d2 d3
  simp only [List.length_append, List.length_singleton]
  go_wp2_with fail
  refine wp_loop_rounds 3 ?_
  rw [rounds_succ]
  go_wp2_with fail
  refine newX (F := fun W => Calls _ _ _ W _) ?_
  intro w2 h2'
  have hs2 := HS1.out.trans h2'.below
  have HS2 := Lib.hid hs2
  have HB2 := Lib.hid h2'.below
  have hcall := typ169 u n0 h1 h2 gv w2 (hs2.kp HR.out)
  clear h2' hs2 c0 c1 c2 c3
  refine hcall.mono ?_
  rintro e w3 ⟨rfl, ho3, hr3⟩
  have ce : ∀ o v, w1.cell? ⟨b, o, none⟩ = some v → w3.cell? ⟨b, o, none⟩ = some v := fun o v hv => (World.cell?_of_block (a := ⟨b, o, none⟩) (ho3.block b (Nat.lt_of_lt_of_le hb HB2.out.size) (by omega))).trans ((HB2.out.cell (p := ⟨b, o, none⟩) hb).trans hv)
  have d0 := ce _ _ HD.out.1
  have d1 := ce _ _ HD.out.2.1
  have d2 := ce _ _ HD.out.2.2.1
  have d3 := ce _ _ HD.out.2.2.2
  have HO3 := Lib.hid ((only_of_since gv HS2.out).trans ho3)
  have HR3 := Lib.hid hr3
  clear ce ho3 hr3 hcall
  go_wp2_with fail
  rw [rounds_succ]
  go_wp2_with fail
  refine newX (F := fun W => Calls _ _ _ W _) ?_
  intro w4 h4
  have HS4 := Lib.hid h4.below
  clear h4 d0 d1 d2 d3
  refine (txt94 2 t _).mono ?_
  rintro e w5 ⟨rfl, hs5⟩
  have HS5 := Lib.hid (Since.trans HS4.out hs5)
  clear hs5
  go_wp2_with fail
  rw [rounds_succ]
  go_wp2_with fail
  go_ret2
  exact ⟨by rw [HCC.out]; rfl, HO3.out.trans (only_of_since gv HS5.out), HS5.out.kp HR3.out⟩
end Go.Proofs.YtbilddeepnnogaaGreatDoor
end
/- Layer 5: a value read. -/
section
set_option linter.unusedVariables false
set_option maxRecDepth 100000
namespace Go.Proofs.YtbilddeepnnogaaGreatDoor
open Go.RowKit Go.Shelf

set_option maxHeartbeats 3200000 in
theorem value97 (s : ByteArray) (x : Nat) (hx1 : 1 ≤ x) (hx : x ≤ 30) (hs : s.size ≤ 100) (w : World) :
    Calls Tryz.prog 97 #[.string (textB (valFs s x))] w fun e w' => ∃ b c, e = .returned (.agg #[.string s, .int .i64 6, .slice (some ⟨b, 0, none⟩) 1 c]) ∧ w.heap.size ≤ b ∧ One w' (some ⟨b, 0, none⟩) x ∧ Since w w' := by
  have hmf : ∀ (fn : Fn) (first cap : Array Value) (w : World), (Instr.makeFunc fn first cap).run Tryz.prog w = .ok (.func fn first cap) w := fun _ _ _ _ => rfl
  have HJ1 := Lib.hid (fun gv W hr => joinedN s ⟨#[]⟩ (.int .i64 0) (.slice none 0 0) (textB (wholeFs x)) gv (val_ok hs x) W hr)
  have HJ2 := Lib.hid (fun W => joinedP (wholeFs x) 1 0 (textB (typFs x)) (whole_ok x) rfl (fun j f hj hne => by
    have h1 := (List.getElem?_eq_some_iff.1 hj).1
    simp [wholeFs] at h1
    exact absurd h1 hne) (by simp [wholeFs]) W)
  have HJ3 := Lib.hid (fun gv W hr => joinedT 6 0 (by omega) (by omega) (textB (dimsFs x)) gv (typ_ok x) W hr)
  have HF := Lib.hid (fun W => flds93 (dimsFs x) (dims_ok x) (by simp [dimsFs]) (by simp [dimsFs]) W)
  obtain ⟨i3, hi3⟩ : ∃ i, Tryz.prog.info? 3 = some i ∧ i.zero = some (.int .i64 0) ∧ i.size = 1 ∧ i.bytes = 8 := by
    obtain ⟨i, h1, h2, h3, h4⟩ := info_parts Tryz.info3
    exact ⟨i, h1, h2, h3, h4⟩
  have HI := Lib.hid hi3
  have hsi : (s.size : Int) ≤ 100 := by omega
  clear hi3
  go_enter Tryz.func97, Tryz.ntmps97
  go_wp2_with fail
  refine newX2 (F := fun W => Calls _ _ _ W _) ?_
  intro w1 h1
  have HX1 := Lib.hid h1
  have z1 : w.heap.size + 2 ≤ w1.heap.size := h1.size
  clear h1
  refine (HJ1.out _ w1 (HX1.out.b1 rfl)).mono ?_
  rintro e w2 ⟨rfl, ho2, hr2⟩
  have HO2 := Lib.hid ho2
  have HR2 := Lib.hid hr2
  clear ho2 hr2
  go_wp2_with fail
  refine (HJ2.out w2).mono ?_
  rintro e w3 ⟨rfl, hs3⟩
  have HS3 := Lib.hid hs3
  have z3 := Nat.le_trans HO2.out.size hs3.size
  clear hs3
  go_wp2_with (go_at_call 14; refine (must_yes _ _).mono ?_; rintro e w4 ⟨rfl, rfl⟩)
  refine newX (F := fun W => Calls _ _ _ W _) ?_
  intro w5 h5
  have HX5 := Lib.hid h5
  clear h5
  refine (HJ3.out _ w5 (HX5.out.b0 rfl)).mono ?_
  rintro e w6 ⟨rfl, ho6, hr6⟩
  have HO6 := Lib.hid ho6
  have HR6 := Lib.hid hr6
  have z6 : w3.heap.size + 1 ≤ w6.heap.size := Nat.le_trans HX5.out.size ho6.size
  clear ho6 hr6
  go_wp2_with fail
  refine (HF.out w6).mono ?_
  rintro e w7 ⟨A, c, rfl, ⟨b, off, rfl, hb, hc⟩, hbA, hs7⟩
  have hbw := hbA _ _ rfl
  obtain ⟨c0, c1, c2, c3⟩ := hc 0 _ rfl
  simp only [Nat.zero_mul, Nat.add_zero] at c0 c1 c2 c3
  have HS7 := Lib.hid hs7
  clear hc hbA hs7 hmf
  simp only [dimsFs, List.length_singleton]
  go_wp2_with fail
  refine wp_loop_rounds 2 ?_
  rw [rounds_succ]
  go_upto_block 1 with (fail)
  have z67 := HS7.out.size
  have old : ∀ k, k < w3.heap.size → w7.heap[k]? = w3.heap[k]? := fun k hk => (HS7.out.block k (by omega)).trans ((HO6.out.block k (by have := HX5.out.size; simp at this; omega) (by omega)).trans (HX5.out.below.block k hk))
  have hv7 : w7.heap[w.heap.size + 1]? = some (.cells #[.string s, .int .i64 0, .slice none 0 0] 28 (0, 0)) := (old _ (by omega)).trans (HS3.out.kp HR2.out)
  have hr7 : w7.heap[w.heap.size]? = some (.cells #[.string ⟨#[]⟩, .int .i64 0, .slice none 0 0] 28 (0, 0)) := (old _ (by omega)).trans ((HS3.out.block _ (by have := HO2.out.size; omega)).trans ((HO2.out.block _ (by omega) (by omega)).trans (HX1.out.b0 rfl)))
  have ht7 : w7.heap[w3.heap.size]? = some (.cells #[.int .i64 6] 2 (0, 0)) := HS7.out.kp HR6.out
  have HB7 := Lib.hid (And.intro hv7 (And.intro hr7 ht7))
  have HSW := Lib.hid (show Below w.heap.size w w7 from by
    have e1 : Below w.heap.size w w3 := (Below.trans HX1.out.below (HO2.out.below (by omega) (by omega))).trans (Below.mono HS3.out (by have := HO2.out.size; omega))
    have e2 : Below w.heap.size w w6 := (e1.trans (Below.mono HX5.out.below (by omega))).trans (HO6.out.below (by omega) (by have := HX5.out.size; simp at this; omega))
    exact e2.trans (Below.mono HS7.out (by omega)))
  have HD := Lib.hid (fun W => dim170 x hx W)
  clear old hv7 hr7 ht7
  go_cut [12] from 39 to 52 (fun _ wx => ∃ b c, wx.heap[w.heap.size + 1]? = some (.cells #[.string s, .int .i64 0, .slice (some ⟨b, 0, none⟩) 1 c] 28 (0, 0)) ∧ w7.heap.size ≤ b ∧ One wx (some ⟨b, 0, none⟩) x ∧ Only (w.heap.size + 1) w7 wx)
  case first =>
    go_wp2_with fail
    refine newX (F := fun W => Code.wp _ _ _ _ W) ?_
    intro w8 h8
    have z8 : w7.heap.size + 1 ≤ w8.heap.size := h8.size
    have hv8 := Since.kp h8.below HB7.out.1
    have v2 : w8.cell? ⟨w.heap.size + 1, 2, none⟩ = some (.slice none 0 0) := cell_of_row _ _ 2 _ 28 (0, 0) hv8
    have vf := frozen_row hv8 2
    obtain ⟨b0, b1, b2, b3, -⟩ := cells4 (h8.b0 rfl)
    have HB8 := Lib.hid (And.intro hv8 h8.below)
    have gl : w.heap.size + 1 < w8.heap.size := by omega
    clear h8 hv8 c0 c1 c2 c3
    first | (go_region_law (first
      | (go_simp; go_at_call 94; refine (txt94 1 _ _).mono ?_; rintro e w9 ⟨rfl, hs9⟩; have u2 : w9.cell? ⟨w.heap.size + 1, 2, none⟩ = some (.slice none 0 0) := (hs9.cell (p := ⟨w.heap.size + 1, 2, none⟩) gl).trans v2; have gl9 : w.heap.size + 1 < w9.heap.size := Nat.lt_of_lt_of_le gl hs9.size; have H9 := Lib.hid (Since.trans (Since.dr (Since.refl w8)) hs9); clear hs9; (try dsimp only))
      | (go_simp; go_at_call 170; refine (HD.out _).mono ?_; rintro e w10 ⟨rfl, hs10⟩; have t2 : w10.cell? ⟨w.heap.size + 1, 2, none⟩ = some (.slice none 0 0) := (hs10.cell (p := ⟨w.heap.size + 1, 2, none⟩) gl9).trans u2; have gl10 : w.heap.size + 1 < w10.heap.size := Nat.lt_of_lt_of_le gl9 hs10.size; have H10 := Lib.hid (Since.trans H9.out hs10); clear hs10; (try dsimp only))
      | (refine step_append_z w10 (repRaw 1) [.int .i64 x] [.int .i64 x] rfl (.tmp 46) (.tmp 50) 23 rfl 3 i3 _ 8 Tryz.underlying23 HI.out.1 HI.out.2.1 HI.out.2.2.1 HI.out.2.2.2 rfl (by decide) (by decide) w8.heap.size (.slice none 0 0) [] rfl oz_nil (fun _ => False) ⟨rfl, rfl, by simp [Value.oneCell']⟩ (fun k hk => hk.elim) w10.heap.size rfl rfl (by decide) H10.out.size ?_; intro v' w11 hz11 hg11; obtain ⟨Z, hO, -⟩ := hz11; obtain ⟨b, c, ev, hb1, hb2, hcc⟩ := hO.raw (by decide) (by simp); simp only [List.nil_append, List.length_singleton] at ev; subst ev; have r11 := (hg11.block (w.heap.size + 1) gl10 (fun e => by cases e)).trans (H10.out.kp HB8.out.1); have y2 : w11.cell? ⟨w.heap.size + 1, 2, none⟩ = some (.slice none 0 0) := cell_of_row _ _ 2 _ 28 (0, 0) r11; have yf := frozen_row r11 2))) | fail
    all_goals
      have hgb : ∀ k, k < w8.heap.size → w11.heap[k]? = w8.heap[k]? := fun k hk => (hg11.block k (Nat.lt_of_lt_of_le hk H10.out.size) (fun e => by cases e)).trans (H10.out.block k hk)
      have HE := Lib.hid (And.intro r11 (And.intro hb1 (And.intro hb2 (And.intro (hcc 0 _ rfl 0 (by decide)) (And.intro hgb (And.intro hg11 H10.out))))))
      clear r11 hb1 hb2 hcc hgb hO hg11 y2 yf
      go_wp2_with fail
      go_meet
      obtain ⟨e1, e2, e3, e4, e5, e6, e7⟩ := HE.out
      have hne : w.heap.size + 1 ≠ b := by omega
      have hb78 := HB8.out.2
      refine ⟨b, c, by simpa using heap_setCell_same _ (w.heap.size + 1) 2 _ 28 (.slice (some ⟨b, 0, none⟩) 1 c) e1, by omega, ⟨b, 0, rfl, by simpa [World.setCell] using e3, ?_⟩, ?_⟩
      · exact (World.cell?_of_block (a := ⟨b, 0, none⟩) (Below.heap_setCell _ _ _ _ (fun e => hne e.symm))).trans (by simpa using e4)
      · exact (only_of_since _ (show Since w7 w8 from hb78)).trans (Only.set_ ⟨e6.os.trans e7.os, e6.tape.trans e7.tape, e6.output.trans e7.output, Nat.le_trans e7.size e6.size, fun k hk _ => e5 k hk⟩ _ _)
  case rest =>
    obtain ⟨b9, c9, hrow, hb9, hone, hoc⟩ := hcut
    obtain ⟨v0, v1, v2, -⟩ := cells3 hrow
    have f1 := frozen_row hrow 1
    have hrr := (hoc.block w.heap.size (by omega) (by omega)).trans HB7.out.2.1
    have t0 : wc.cell? ⟨w3.heap.size, 0, none⟩ = some (.int .i64 6) := cell_of_row _ _ 0 _ 2 (0, 0) ((hoc.block w3.heap.size (by omega) (by omega)).trans HB7.out.2.2)
    have HW := Lib.hid (And.intro hrow (And.intro hone (And.intro hoc hrr)))
    have hbne : b9 ≠ w.heap.size + 1 := by omega
    clear hrow hone hoc hrr
    go_wp2_with fail
    rw [rounds_succ]
    go_wp2_with fail
    have g1 : (wc.setCell ⟨w.heap.size + 1, 1, none⟩ (.int .i64 6)).heap[w.heap.size + 1]? = some (.cells #[.string s, .int .i64 6, .slice (some ⟨b9, 0, none⟩) 1 c9] 28 (0, 0)) := by simpa using heap_setCell_same wc (w.heap.size + 1) 1 _ 28 (.int .i64 6) HW.out.1
    have k1 : ∀ k, k ≠ w.heap.size + 1 → (wc.setCell ⟨w.heap.size + 1, 1, none⟩ (.int .i64 6)).heap[k]? = wc.heap[k]? := fun k hk => Below.heap_setCell _ _ _ _ hk
    have z9 : (wc.setCell ⟨w.heap.size + 1, 1, none⟩ (.int .i64 6)).heap.size = wc.heap.size := by simp [World.setCell]
    have s9 : Below w.heap.size w (wc.setCell ⟨w.heap.size + 1, 1, none⟩ (.int .i64 6)) := (HSW.out.trans (HW.out.2.2.1.below (by omega) (by omega))).setCell (by show w.heap.size ≤ w.heap.size + 1; omega) _
    generalize wc.setCell ⟨w.heap.size + 1, 1, none⟩ (.int .i64 6) = wd at g1 k1 z9 s9 ⊢
    have hone : One wd (some ⟨b9, 0, none⟩) x := by
      obtain ⟨b', o', e', h1, h2⟩ := HW.out.2.1
      cases e'
      exact ⟨_, _, rfl, by omega, (World.cell?_of_block (a := ⟨b9, 0, none⟩) (k1 b9 hbne)).trans h2⟩
    have hrr := (k1 w.heap.size (by omega)).trans HW.out.2.2.2
    have HC := Lib.hid (fun W (h : W = wd) => count1_any W (some ⟨b9, 0, none⟩) c9 x (h ▸ hone) (by omega) (by omega))
    obtain ⟨p0, p1, p2, -⟩ := cells3 g1
    obtain ⟨q0, q1, q2, q3, q4, q5⟩ := cells3 hrr
    have HD := Lib.hid (And.intro hone (And.intro hrr s9))
    have hnb : b9 ≠ w.heap.size := by omega
    clear g1 k1 z9 s9 hone hrr v0 v1 v2 f1 t0
    refine (typed43 _).mono ?_
    rintro e wd ⟨rfl, rfl⟩
    go_wp2_with (first | (go_at_call 14; refine (must_yes _ _).mono ?_; rintro e w4 ⟨rfl, rfl⟩) | (go_at_call 42; refine (HC.out _ rfl).mono ?_; rintro e wd ⟨rfl, rfl⟩))
    have rf := setFrom_heap 28 w.heap.size [.string s, .int .i64 6, .slice (some ⟨b9, 0, none⟩) 1 c9] 0 wd _ HD.out.2.1
    obtain ⟨kf, zf, -⟩ := setFrom_keep w.heap.size [.string s, .int .i64 6, .slice (some ⟨b9, 0, none⟩) 1 c9] 0 wd
    have bf := HD.out.2.2.trans (setFrom_below (Nat.le_refl w.heap.size) [.string s, .int .i64 6, .slice (some ⟨b9, 0, none⟩) 1 c9] 0 wd)
    have hone2 : One (setFrom wd w.heap.size 0 [.string s, .int .i64 6, .slice (some ⟨b9, 0, none⟩) 1 c9]) (some ⟨b9, 0, none⟩) x := by
      obtain ⟨b', o', e', h1, h2⟩ := HD.out.1
      cases e'
      exact ⟨_, _, rfl, by omega, (World.cell?_of_block (a := ⟨b9, 0, none⟩) (kf b9 hnb)).trans h2⟩
    refine bodyPost_ret (results_cell_row rfl _ _ w.heap.size 28 _ (0, 0) _ rfl rf Tryz.underlying28 rfl (by kernel_rfl)) rfl ?_
    exact ⟨b9, c9, rfl, by omega, hone2, bf⟩
end Go.Proofs.YtbilddeepnnogaaGreatDoor
end
/- Layer 5: a node read. -/
section
set_option linter.unusedVariables false
set_option maxRecDepth 100000
namespace Go.Proofs.YtbilddeepnnogaaGreatDoor
open Go.RowKit Go.Shelf

theorem Tryz.info9 : (Tryz.prog.info? 9).map (fun i => (i.zero, i.size, i.bytes)) = some (some (.string ⟨#[]⟩), 1, 16) := by kernel_rfl
theorem nodeFs_len (o : Op1) : (nodeFs o).length = o.m + 3 := by simp [nodeFs]
theorem nodeFs_in {o : Op1} {k : Nat} (h : k < o.m) : (nodeFs o)[k]? = some (tF 1 ⟨#[120]⟩) := by
  simp only [nodeFs, List.append_assoc]
  rw [List.getElem?_append_left (by rw [List.length_replicate]; exact h), List.getElem?_replicate, if_pos h]
theorem nodeFs_out (o : Op1) : (nodeFs o)[o.m]? = some (tF 2 o.out) := by simp [nodeFs, List.append_assoc, List.getElem?_append_right]
theorem nodeFs_name (o : Op1) : (nodeFs o)[o.m + 1]? = some (tF 3 ⟨#[]⟩) := by simp [nodeFs, List.append_assoc, List.getElem?_append_right]
theorem nodeFs_op (o : Op1) : (nodeFs o)[o.m + 2]? = some (tF 4 o.op) := by simp [nodeFs, List.append_assoc, List.getElem?_append_right]
/-- A node under way. -/
structure NdW (w w1 wr : World) (o : Op1) (k : Nat) (v4 v : Value) (op : ByteArray) : Prop where
  lt : w.heap.size + 2 ≤ w1.heap.size
  only : Only (w.heap.size + 1) w1 wr
  row : wr.heap[w.heap.size + 1]? = some (.cells #[.string op, .string ⟨#[]⟩, v, .string ⟨#[]⟩, .slice none 0 0] 37 (0, 0))
  ins : OZ (repRaw 1) 9 wr w1.heap.size v (List.replicate (min k o.m) [.string ⟨#[120]⟩])
  opn : (k ≤ o.m + 2 ∧ op = ⟨#[]⟩) ∨ (o.m + 2 < k ∧ op = o.op)
  outs : (k ≤ o.m ∧ v4 = .slice none 0 0) ∨ (o.m < k ∧ ∃ b c, v4 = .slice (some ⟨b, 0, none⟩) 1 c ∧ w1.heap.size ≤ b ∧ b < wr.heap.size ∧ wr.cell? ⟨b, 0, none⟩ = some (.string o.out))
section
variable {w w1 wr w' : World} {o : Op1} {k : Nat} {v4 v v' : Value} {op : ByteArray}
theorem NdW.since (h : NdW w w1 wr o k v4 v op) (hs : Since wr w') : NdW w w1 w' o k v4 v op := by
  refine ⟨h.lt, h.only.trans (only_of_since _ hs), hs.kp h.row, h.ins.below hs, h.opn, ?_⟩
  rcases h.outs with h4 | ⟨h4, b, c, h5, h6, h7, h8⟩
  · exact .inl h4
  · exact .inr ⟨h4, b, c, h5, h6, Nat.lt_of_lt_of_le h7 hs.size, (hs.cell (p := ⟨b, 0, none⟩) h7).trans h8⟩
theorem NdW.nil4 (h : NdW w w1 wr o k v4 v op) (hk : k = o.m) : v4 = .slice none 0 0 := by
  rcases h.outs with h | h
  · exact h.2
  · omega
theorem NdW.done (h : NdW w w1 wr o k v4 v op) (hk : k = o.m + 3) (h1 : 1 ≤ o.m) : (op = o.op ∧ ∃ b c, v4 = .slice (some ⟨b, 0, none⟩) 1 c ∧ w1.heap.size ≤ b ∧ b < wr.heap.size ∧ wr.cell? ⟨b, 0, none⟩ = some (.string o.out)) ∧ ∃ b c, v = .slice (some ⟨b, 0, none⟩) o.m c ∧ w1.heap.size ≤ b ∧ Xs wr (some ⟨b, 0, none⟩) o.m := by
  refine ⟨⟨?_, ?_⟩, ?_⟩
  · rcases h.opn with h | h
    · omega
    · exact h.2
  · rcases h.outs with h | h
    · omega
    · exact h.2
  · have hi := h.ins
    rw [show min k o.m = o.m by omega] at hi
    obtain ⟨Z, hO, -⟩ := hi
    obtain ⟨b, c, e, hb1, hb2, hc⟩ := hO.raw (by decide) (by rw [List.length_replicate]; omega)
    rw [List.length_replicate] at e
    refine ⟨b, c, e, hb1, b, 0, rfl, hb2, fun j hj => ?_⟩
    have := hc j _ (by rw [List.getElem?_replicate, if_pos hj]) 0 (by decide)
    simpa using this
theorem NdW.putIn (h : NdW w w1 wr o k v4 v op) (hk : k < o.m) (hz : OZ (repRaw 1) 9 w' w1.heap.size v' (List.replicate k [.string ⟨#[120]⟩] ++ [[.string ⟨#[120]⟩]])) (hg : wr.grownBy w' v.ownBlock) : w'.heap[w.heap.size + 1]? = wr.heap[w.heap.size + 1]? ∧ NdW w w1 (w'.setCell ⟨w.heap.size + 1, 2, none⟩ v') o (k + 1) v4 v' op := by
  have hlt := h.lt
  have hz1 := h.only.size
  have hown : ∀ b, v.ownBlock = some b → w1.heap.size ≤ b := fun b e => (h.ins.row_lt b e).1
  have hr := hg.block (w.heap.size + 1) (by omega) (fun e => by have := hown _ e.symm; omega)
  have hz2 : (w'.setCell ⟨w.heap.size + 1, 2, none⟩ v').heap.size = w'.heap.size := by simp [World.setCell]
  refine ⟨hr, hlt, (only_grown h.only hg hown).set_ _ _, by simpa using heap_setCell_same w' (w.heap.size + 1) 2 _ 37 v' (hr.trans h.row), ?_, ?_, ?_⟩
  · rw [show min (k + 1) o.m = k + 1 by omega, List.replicate_succ']
    exact hz.keep (fun b h1 h2 => Below.heap_setCell _ _ _ _ (by dsimp only; omega)) (by omega)
  · rcases h.opn with ⟨h1, h2⟩ | ⟨h1, h2⟩
    · exact .inl ⟨by omega, h2⟩
    · omega
  · rcases h.outs with h1 | ⟨h1, -⟩
    · exact .inl ⟨by omega, h1.2⟩
    · omega
theorem NdW.putOut (h : NdW w w1 wr o k v4 v op) (hkm : k = o.m) {b c : Nat} (hg : wr.grownBy w' none) (h1 : wr.heap.size ≤ b) (h2 : b < w'.heap.size) (h3 : w'.cell? ⟨b, 0, none⟩ = some (.string o.out)) : NdW w w1 w' o (k + 1) (.slice (some ⟨b, 0, none⟩) 1 c) v op := by
  subst hkm
  have hk : ∀ j, j < wr.heap.size → w'.heap[j]? = wr.heap[j]? := fun j hj => hg.block j hj (fun e => by cases e)
  have hz1 := h.only.size
  have hz2 : wr.heap.size ≤ w'.heap.size := hg.size
  refine ⟨h.lt, only_grown h.only hg (fun k e => by cases e), (hk _ (Array.getElem?_eq_some_iff.1 h.row).1).trans h.row, ?_, ?_, .inr ⟨by omega, b, c, rfl, by omega, h2, h3⟩⟩
  · rw [show min (o.m + 1) o.m = min o.m o.m by omega]
    exact h.ins.keep (fun k _ hk' => hk k hk') hz2
  · rcases h.opn with ⟨h1, h2⟩ | ⟨h1, h2⟩
    · exact .inl ⟨by omega, h2⟩
    · omega
theorem NdW.putName (h : NdW w w1 wr o k v4 v op) (hkm : k = o.m + 1) : NdW w w1 (wr.setCell ⟨w.heap.size + 1, 1, none⟩ (.string ⟨#[]⟩)) o (k + 1) v4 v op := by
  subst hkm
  have hlt := h.lt
  have hz : (wr.setCell ⟨w.heap.size + 1, 1, none⟩ (.string ⟨#[]⟩)).heap.size = wr.heap.size := by simp [World.setCell]
  refine ⟨h.lt, h.only.set_ _ _, by simpa using heap_setCell_same wr (w.heap.size + 1) 1 _ 37 (.string ⟨#[]⟩) h.row, ?_, ?_, ?_⟩
  · rw [show min (o.m + 1 + 1) o.m = min (o.m + 1) o.m by omega]
    exact h.ins.keep (fun k h1 _ => Below.heap_setCell _ _ _ _ (by dsimp only; omega)) (by omega)
  · rcases h.opn with ⟨h1, h2⟩ | ⟨h1, h2⟩
    · exact .inl ⟨by omega, h2⟩
    · omega
  · rcases h.outs with ⟨h1, -⟩ | ⟨h1, b, c, h2, h3, h4, h5⟩
    · omega
    · exact .inr ⟨by omega, b, c, h2, h3, by omega, (World.cell?_of_block (a := ⟨b, 0, none⟩) (Below.heap_setCell _ _ _ _ (by dsimp only; omega))).trans h5⟩
theorem NdW.putOp (h : NdW w w1 wr o k v4 v op) (hkm : k = o.m + 2) : NdW w w1 (wr.setCell ⟨w.heap.size + 1, 0, none⟩ (.string o.op)) o (k + 1) v4 v o.op := by
  subst hkm
  have hlt := h.lt
  have hz : (wr.setCell ⟨w.heap.size + 1, 0, none⟩ (.string o.op)).heap.size = wr.heap.size := by simp [World.setCell]
  refine ⟨h.lt, h.only.set_ _ _, by simpa using heap_setCell_same wr (w.heap.size + 1) 0 _ 37 (.string o.op) h.row, ?_, .inr ⟨by omega, rfl⟩, ?_⟩
  · rw [show min (o.m + 2 + 1) o.m = min (o.m + 2) o.m by omega]
    exact h.ins.keep (fun k h1 _ => Below.heap_setCell _ _ _ _ (by dsimp only; omega)) (by omega)
  · rcases h.outs with ⟨h1, -⟩ | ⟨h1, b, c, h2, h3, h4, h5⟩
    · omega
    · exact .inr ⟨by omega, b, c, h2, h3, by omega, (World.cell?_of_block (a := ⟨b, 0, none⟩) (Below.heap_setCell _ _ _ _ (by dsimp only; omega))).trans h5⟩
end
set_option maxHeartbeats 3200000 in
theorem node95 (o : Op1) (hm1 : 1 ≤ o.m) (hm : o.m ≤ 2) (hs1 : o.op.size ≤ 100) (hs2 : o.out.size ≤ 100) (w : World) :
    Calls Tryz.prog 95 #[.string (textB (nodeFs o))] w fun e w' => ∃ b c, e = .returned (.agg #[.string o.op, .string ⟨#[]⟩, .slice (some ⟨b, 0, none⟩) o.m c, .string o.out, .slice none 0 0]) ∧ w.heap.size ≤ b ∧ Xs w' (some ⟨b, 0, none⟩) o.m ∧ Since w w' := by
  have HF := Lib.hid (fun W => flds93 (nodeFs o) (nodeFs_ok hs1 hs2) (by rw [nodeFs_len]; omega) (by rw [nodeFs_len]; omega) W)
  obtain ⟨i9, hi9⟩ : ∃ i, Tryz.prog.info? 9 = some i ∧ i.zero = some (.string ⟨#[]⟩) ∧ i.size = 1 ∧ i.bytes = 16 := by
    obtain ⟨i, h1, h2, h3, h4⟩ := info_parts Tryz.info9
    exact ⟨i, h1, h2, h3, h4⟩
  have HI := Lib.hid hi9
  have hll := nodeFs_len o
  have HLL := Lib.hid hll
  clear hi9 hll
  go_enter Tryz.func95, Tryz.ntmps95
  go_wp2_with fail
  refine newX2 (F := fun W => Calls _ _ _ W _) ?_
  intro w0 h0
  have z0 : w.heap.size + 2 ≤ w0.heap.size := h0.size
  have HX0 := Lib.hid h0
  clear h0
  refine (HF.out w0).mono ?_
  rintro e w1 ⟨A, c, rfl, hfl, hbA, hs1'⟩
  have HX1 := Lib.hid (HX0.out.all hs1')
  have z1 := hs1'.size
  have HFL := Lib.hid hfl
  have HBA := Lib.hid hbA
  clear hfl hbA hs1'
  rw [HLL.out]
  have HST := Lib.hid (show NdW w w1 w1 o 0 (.slice none 0 0) (.slice none 0 0) ⟨#[]⟩ from ⟨by omega, Only.refl _ _, HX1.out.b1 rfl, by rw [Nat.zero_min]; exact oz_nil, .inl ⟨by omega, rfl⟩, .inl ⟨by omega, rfl⟩⟩)
  go_wp2_with fail
  go_loopw [4, 5, 11] (fun v4 v5 i wr => ∃ k : Nat, k ≤ o.m + 3 ∧ i = .int .i64 k ∧ v5 = .string ⟨#[]⟩ ∧ ∃ v op, NdW w w1 wr o k v4 v op) (fun _ _ i _ => o.m + 3 - (intOf i).toNat)
  case atStart => exact ⟨0, Nat.zero_le _, rfl, rfl, _, _, HST.out⟩
  case round =>
    obtain ⟨k, hk, rfl, rfl, v, op, hs⟩ := hrel
    obtain ⟨b, off, eA, hb, hc⟩ := HFL.out
    have hbw := HBA.out b off eA
    subst eA
    have ce : ∀ j f, (nodeFs o)[j]? = some f → wr.cell? ⟨b, off + j * 4, none⟩ = some (.int .i64 f.num) ∧ wr.cell? ⟨b, off + j * 4 + 1, none⟩ = some (.int .i64 f.kind) ∧ wr.cell? ⟨b, off + j * 4 + 2, none⟩ = some (.int .u64 f.u) ∧ wr.cell? ⟨b, off + j * 4 + 3, none⟩ = some (.string f.b) := fun j f hj => by
      have e : ∀ i, wr.cell? ⟨b, i, none⟩ = w1.cell? ⟨b, i, none⟩ := fun i => World.cell?_of_block (a := ⟨b, i, none⟩) (hs.only.block b hb (by omega))
      obtain ⟨a0, a1, a2, a3⟩ := hc j f hj
      exact ⟨(e _).trans a0, (e _).trans a1, (e _).trans a2, (e _).trans a3⟩
    clear hc
    have hli : (k : Int) < (o.m : Int) + 3 ∨ k = o.m + 3 := by omega
    rcases hli with hki | hki
    · have hkk : k < o.m ∨ k = o.m ∨ k = o.m + 1 ∨ k = o.m + 2 := by omega
      rcases hkk with h1 | h1 | h1 | h1
      · obtain ⟨c0, c1, c2, c3⟩ := ce k _ (nodeFs_in h1)
        obtain ⟨Av, cv, ev⟩ := hs.ins.form
        rw [List.length_replicate, Nat.min_eq_left (by omega)] at ev
        subst ev
        have HS := Lib.hid hs
        clear hs ce
        go_wp2_with fail
        refine newX (F := fun W => Code.wp _ _ _ _ W) ?_
        intro w2 h2
        have hs2 := HS.out.since h2.below
        have v2 : w2.cell? ⟨w.heap.size + 1, 2, none⟩ = some (.slice Av k cv) := cell_of_row _ _ 2 _ 37 (0, 0) hs2.row
        have vf := frozen_row hs2.row 2
        obtain ⟨b0, b1, b2, b3, -⟩ := cells4 (h2.b0 rfl)
        have gl : w.heap.size + 1 < w2.heap.size := (Array.getElem?_eq_some_iff.1 hs2.row).1
        have HS2 := Lib.hid hs2
        clear h2 hs2 c0 c1 c2 c3
        first | (go_region_law (first
          | (go_simp; go_at_call 94; refine (txt94 1 _ _).mono ?_; rintro e w3 ⟨rfl, hs3⟩; have t2 : w3.cell? ⟨w.heap.size + 1, 2, none⟩ = some (.slice Av k cv) := (hs3.cell (p := ⟨w.heap.size + 1, 2, none⟩) gl).trans v2; have gl3 : w.heap.size + 1 < w3.heap.size := Nat.lt_of_lt_of_le gl hs3.size; have H3 := Lib.hid (HS2.out.since (Since.trans (Since.dr (Since.refl w2)) hs3)); clear hs3; (try dsimp only))
          | (refine step_append_z w3 (repRaw 1) [.string ⟨#[120]⟩] [.string ⟨#[120]⟩] rfl (.tmp 20) (.tmp 23) 34 rfl 9 i9 _ 16 Tryz.underlying34 HI.out.1 HI.out.2.1 HI.out.2.2.1 HI.out.2.2.2 rfl (by decide) (by decide) w1.heap.size (.slice Av k cv) (List.replicate (min k o.m) [.string ⟨#[120]⟩]) rfl H3.out.ins (fun _ => False) ⟨rfl, rfl, by simp [Value.oneCell']⟩ (fun k hk => hk.elim) w3.heap.size rfl rfl (by rw [List.length_replicate]; omega) H3.out.only.size ?_; intro v' w4 hz4 hg4; rw [show min k o.m = k by omega] at hz4; obtain ⟨A4, c4, e4⟩ := hz4.form; rw [List.length_append, List.length_replicate, List.length_singleton] at e4; subst e4; have hput := H3.out.putIn h1 hz4 hg4; have y2 : w4.cell? ⟨w.heap.size + 1, 2, none⟩ = some (.slice Av k cv) := cell_of_row _ _ 2 _ 37 (0, 0) (hput.1.trans H3.out.row); have yf := frozen_row (hput.1.trans H3.out.row) 2))) | fail
        all_goals
          have HN := Lib.hid hput.2
          clear hput y2 yf hz4 hg4
          go_wp2_with fail
          exact ⟨⟨k + 1, by omega, by go_num, rfl, _, _, HN.out⟩, by simp [intOf]; omega⟩
      · obtain ⟨c0, c1, c2, c3⟩ := ce k _ (by rw [h1]; exact nodeFs_out o)
        have HK := Lib.hid h1
        have HS := Lib.hid hs
        have e4 := HS.out.nil4 HK.out
        subst e4
        clear hs ce h1
        go_wp2_with fail
        refine newX (F := fun W => Calls _ _ _ W _) ?_
        intro w2 h2
        have HS2 := Lib.hid (HS.out.since h2.below)
        clear h2
        refine (txt94 2 o.out _).mono ?_
        rintro e w3 ⟨rfl, hs3⟩
        have H3 := Lib.hid (HS2.out.since hs3)
        clear hs3 c0 c1 c2 c3
        go_wp2_with (at_builtin; refine wpList_append_z w3 (repRaw 1) [.string o.out] [.string o.out] rfl (.tmp 28) (.tmp 31) 34 rfl 9 i9 _ 16 Tryz.underlying34 HI.out.1 HI.out.2.1 HI.out.2.2.1 HI.out.2.2.2 rfl (by decide) (by decide) w3.heap.size (.slice none 0 0) [] rfl oz_nil (fun _ => False) ⟨rfl, rfl, by simp [Value.oneCell']⟩ (fun k hk => hk.elim) w3.heap.size rfl rfl (by decide) (Nat.le_refl _) ?_; intro v' w4 hz4 hg4; obtain ⟨Z, hO, -⟩ := hz4; obtain ⟨b9, c9, ev, hb1, hb2, hcc⟩ := hO.raw (by decide) (by simp); simp only [List.nil_append, List.length_singleton] at ev; subst ev; have HN := Lib.hid (H3.out.putOut HK.out (c := c9) hg4 hb1 hb2 (hcc 0 _ rfl 0 (by decide))); clear hO hb1 hb2 hcc hg4)
        exact ⟨⟨k + 1, by omega, by go_num, rfl, _, _, HN.out⟩, by simp [intOf]; omega⟩
      · obtain ⟨c0, c1, c2, c3⟩ := ce k _ (by rw [h1]; exact nodeFs_name o)
        have HK := Lib.hid h1
        have HS := Lib.hid hs
        clear hs ce h1
        go_wp2_with fail
        refine newX (F := fun W => Calls _ _ _ W _) ?_
        intro w2 h2
        have HS2 := Lib.hid (HS.out.since h2.below)
        clear h2
        refine (txt94 3 ⟨#[]⟩ _).mono ?_
        rintro e w3 ⟨rfl, hs3⟩
        have hs3' := HS2.out.since hs3
        have p0 := cell_of_row _ _ 1 _ 37 (0, 0) hs3'.row
        have f0 := frozen_row hs3'.row 1
        have HN := Lib.hid (hs3'.putName HK.out)
        clear hs3 hs3' c0 c1 c2 c3
        go_wp2_with fail
        exact ⟨⟨k + 1, by omega, by go_num, rfl, _, _, HN.out⟩, by simp [intOf]; omega⟩
      · obtain ⟨c0, c1, c2, c3⟩ := ce k _ (by rw [h1]; exact nodeFs_op o)
        have HK := Lib.hid h1
        have HS := Lib.hid hs
        clear hs ce h1
        go_wp2_with fail
        refine newX (F := fun W => Calls _ _ _ W _) ?_
        intro w2 h2
        have HS2 := Lib.hid (HS.out.since h2.below)
        clear h2
        refine (txt94 4 o.op _).mono ?_
        rintro e w3 ⟨rfl, hs3⟩
        have hs3' := HS2.out.since hs3
        have p0 := cell_of_row _ _ 0 _ 37 (0, 0) hs3'.row
        have f0 := frozen_row hs3'.row 0
        have HN := Lib.hid (hs3'.putOp HK.out)
        clear hs3 hs3' c0 c1 c2 c3
        go_wp2_with fail
        exact ⟨⟨k + 1, by omega, by go_num, rfl, _, _, HN.out⟩, by simp [intOf]; omega⟩
    · obtain ⟨⟨e1, b4, c4, e2, hb4, hb4', hc4⟩, bi, ci, e3, hbi, hxi⟩ := hs.done hki hm1
      have hend : ¬ (k : Int) < (o.m : Int) + 3 := by omega
      subst e1 e2 e3
      have hrow := hs.row
      have hrr := (hs.only.block w.heap.size (by omega) (by omega)).trans (HX1.out.b0 rfl)
      have f3 := frozen_row hrow 3
      have hsw : Below w.heap.size w wr := Below.trans HX1.out.below (hs.only.below (by omega) (by omega))
      have HH := Lib.hid (And.intro hrow (And.intro hrr (And.intro hsw hxi)))
      obtain ⟨v0, v1, v2, v3, v4, -⟩ := cells5 hrow
      have gl : w.heap.size + 1 < wr.heap.size := (Array.getElem?_eq_some_iff.1 hrow).1
      have hom : o.m ≤ 2 := hm
      clear hs ce hrow hrr hsw hxi
      go_wp2_with (go_at_call 14; refine (must_yes _ _).mono ?_; rintro e w4 ⟨rfl, rfl⟩)
      have g1 : (wr.setCell ⟨w.heap.size + 1, 3, none⟩ (.string o.out)).heap[w.heap.size + 1]? = some (.cells #[.string o.op, .string ⟨#[]⟩, .slice (some ⟨bi, 0, none⟩) o.m ci, .string o.out, .slice none 0 0] 37 (0, 0)) := by simpa using heap_setCell_same wr (w.heap.size + 1) 3 _ 37 (.string o.out) HH.out.1
      have k1 : ∀ k, k ≠ w.heap.size + 1 → (wr.setCell ⟨w.heap.size + 1, 3, none⟩ (.string o.out)).heap[k]? = wr.heap[k]? := fun k hk => Below.heap_setCell _ _ _ _ hk
      have z9 : (wr.setCell ⟨w.heap.size + 1, 3, none⟩ (.string o.out)).heap.size = wr.heap.size := by simp [World.setCell]
      have s9 : Below w.heap.size w (wr.setCell ⟨w.heap.size + 1, 3, none⟩ (.string o.out)) := HH.out.2.2.1.setCell (by show w.heap.size ≤ w.heap.size + 1; omega) _
      generalize wr.setCell ⟨w.heap.size + 1, 3, none⟩ (.string o.out) = wd at g1 k1 z9 s9 ⊢
      have hxi : Xs wd (some ⟨bi, 0, none⟩) o.m := by
        obtain ⟨b', o', e', h1, h2⟩ := HH.out.2.2.2
        cases e'
        exact ⟨_, _, rfl, by omega, fun j hj => (World.cell?_of_block (a := ⟨bi, 0 + j, none⟩) (k1 bi (by omega))).trans (h2 j hj)⟩
      have hrr := (k1 w.heap.size (by omega)).trans HH.out.2.1
      have HD := Lib.hid (And.intro g1 (And.intro hxi (And.intro hrr s9)))
      have hS := short40 o.op o.out (some ⟨bi, 0, none⟩) o.m ci wd hxi hom hs1 hs2
      clear g1 k1 z9 s9 hxi hrr v0 v1 v2 v3 v4 f3 hc4
      refine hS.mono ?_
      rintro e we ⟨rfl, hse⟩
      obtain ⟨v0, v1, v2, v3, v4, -⟩ := cells5 (hse.kp HD.out.1)
      obtain ⟨q0, q1, q2, q3, q4, f0, f1, f2, f3, f4⟩ := cells5 (hse.kp HD.out.2.2.1)
      have HE := Lib.hid hse
      clear hse hS
      go_wp2_with (go_at_call 14; refine (must_yes _ _).mono ?_; rintro e w4 ⟨rfl, rfl⟩)
      have rf := setFrom_heap 37 w.heap.size [.string o.op, .string ⟨#[]⟩, .slice (some ⟨bi, 0, none⟩) o.m ci, .string o.out, .slice none 0 0] 0 we _ (HE.out.kp HD.out.2.2.1)
      obtain ⟨kf, zf, -⟩ := setFrom_keep w.heap.size [.string o.op, .string ⟨#[]⟩, .slice (some ⟨bi, 0, none⟩) o.m ci, .string o.out, .slice none 0 0] 0 we
      have bf := (HD.out.2.2.2.trans (Below.mono HE.out HD.out.2.2.2.size)).trans (setFrom_below (Nat.le_refl w.heap.size) [.string o.op, .string ⟨#[]⟩, .slice (some ⟨bi, 0, none⟩) o.m ci, .string o.out, .slice none 0 0] 0 we)
      have hx2 : Xs (setFrom we w.heap.size 0 [.string o.op, .string ⟨#[]⟩, .slice (some ⟨bi, 0, none⟩) o.m ci, .string o.out, .slice none 0 0]) (some ⟨bi, 0, none⟩) o.m := by
        obtain ⟨b', o', e', h1, h2⟩ := HD.out.2.1.below HE.out
        cases e'
        exact ⟨_, _, rfl, by omega, fun j hj => (World.cell?_of_block (a := ⟨bi, 0 + j, none⟩) (kf bi (by omega))).trans (h2 j hj)⟩
      refine bodyPost_ret (results_cell_row rfl _ _ w.heap.size 37 _ (0, 0) _ rfl rf Tryz.underlying37 rfl (by kernel_rfl)) rfl ?_
      exact ⟨bi, ci, rfl, by omega, hx2, bf⟩
end Go.Proofs.YtbilddeepnnogaaGreatDoor
end
