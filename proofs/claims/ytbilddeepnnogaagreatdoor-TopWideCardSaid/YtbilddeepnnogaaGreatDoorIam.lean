import Derived.Test.YtbilddeepnnogaaGreatDoorFam
import Derived.Test.YtbilddeepnnogaaGreatDoorMam
import Derived.OwnWalk
import Derived.Lib.EndianBits
set_option linter.unusedVariables false
set_option linter.unusedSimpArgs false
/- Runs: pieces of work, and which one is picked. -/
section
set_option linter.unusedVariables false
set_option maxRecDepth 100000
namespace Go.Proofs.YtbilddeepnnogaaGreatDoor
open Go.RowKit Go.Shelf

theorem width157 (w : World) : Calls Tryz.prog 157 #[.int .i64 6] w fun e w' => e = .returned (.int .i64 4) ∧ w' = w := by
  go_enter Tryz.func157, Tryz.ntmps157
  go_wp2_with fail
  first | (rw [Exit.noGoto_ret]) | skip
  go_ret
  exact ⟨rfl, rfl⟩
/-- A piece of work: of node i the elements of piece j. -/
def stepR (i x sz j : Nat) : List Value := [.int .i64 i, .int .i64 (j * sz : Nat), .int .i64 (min (x : Int) ((j * sz : Nat) + (sz : Int)))]
def stepsR (i x sz q : Nat) : List (List Value) := (List.range q).map (stepR i x sz)
theorem stepsR_succ (i x sz q : Nat) : stepsR i x sz (q + 1) = stepsR i x sz q ++ [stepR i x sz q] := by simp [stepsR, List.range_succ]
theorem stepsR_len (i x sz q : Nat) : (stepsR i x sz q).length = q := by simp [stepsR]
theorem stepsR_get {i x sz q j : Nat} (h : j < q) : (stepsR i x sz q)[j]? = some (stepR i x sz j) := by simp [stepsR, h]
theorem Tryz.info97 : (Tryz.prog.info? 97).map (fun i => (i.zero, i.size, i.bytes)) = some (some (.agg #[.int .i64 0, .int .i64 0, .int .i64 0]), 3, 24) := by kernel_rfl
set_option maxHeartbeats 1600000 in
theorem steps_any (i x sz : Nat) (hi : i ≤ 5) (hx : x ≤ 30) (hx1 : 1 ≤ x) (hs : sz ≤ 10) (hs1 : 1 ≤ sz) (w : World) :
    Calls Tryz.prog 76 #[.int .i64 i, .int .i64 x, .int .i64 sz] w fun e w' => ∃ A c q, e = .returned (.tuple #[.slice A q c, .int .i64 0]) ∧ OwnL (repRaw 3) 97 w' w.heap.size (fun _ => False) (.slice A q c) (stepsR i x sz q) ∧ x ≤ q * sz ∧ q ≤ 30 ∧ (∀ j, j < q → j * sz < x) ∧ Since w w' := by
  have hmin : ¬ min (x : Int) (sz : Int) < 1 := by omega
  have hmax : ¬ (65536 : Int) < max (x : Int) (sz : Int) := by omega
  have hii : (i : Int) ≤ 5 := by omega
  have hsi : (sz : Int) ≤ 10 := by omega
  have hxi : (x : Int) ≤ 30 := by omega
  obtain ⟨i97, hi97⟩ : ∃ i, Tryz.prog.info? 97 = some i ∧ i.zero = some (.agg #[.int .i64 0, .int .i64 0, .int .i64 0]) ∧ i.size = 3 ∧ i.bytes = 24 := by
    obtain ⟨i, h1, h2, h3, h4⟩ := info_parts Tryz.info97
    exact ⟨i, h1, h2, h3, h4⟩
  have HI := Lib.hid hi97
  clear hi97
  go_enter Tryz.func76, Tryz.ntmps76
  go_wp2_with fail
  go_loopw [8, 9] (fun v i9 wr => ∃ q : Nat, q ≤ 30 ∧ i9 = .int .i64 (q * sz : Nat) ∧ (∀ j, j < q → j * sz < x) ∧ Since w wr ∧ OwnL (repRaw 3) 97 wr w.heap.size (fun _ => False) v (stepsR i x sz q)) (fun _ i9 _ => 60 - (intOf i9).toNat)
  case atStart => exact ⟨0, by omega, by rw [Nat.zero_mul]; rfl, fun j hj => by omega, Since.refl _, ownL_nil⟩
  case round =>
    obtain ⟨q, hq, rfl, hlo, hs, hown⟩ := hrel
    obtain ⟨A, c, hv⟩ := hown.form
    rw [stepsR_len] at hv
    subst hv
    have HS := Lib.hid hs
    have HOWN := Lib.hid hown
    have hql : q ≤ q * sz := Nat.le_mul_of_pos_right _ hs1
    have hsq : (q + 1) * sz = q * sz + sz := by rw [Nat.add_mul, Nat.one_mul]
    have hrow : stepR i x sz q = [.int .i64 i, .int .i64 (q * sz : Nat), .int .i64 (min (x : Int) ((q * sz : Nat) + (sz : Int)))] := rfl
    clear hs hown
    by_cases hlt : q * sz < x
    · generalize hm : q * sz = m at *
      have hmi : (m : Int) < x := by omega
      have hmm : (m : Int) + (sz : Int) ≤ 40 := by omega
      go_wp2_with (at_builtin; refine wpList_append_f wr (repRaw 3) (flatRaw 3) (stepR i x sz q) [.int .i64 i, .int .i64 m, .int .i64 (min (x : Int) ((m : Int) + (sz : Int)))] rfl (.tmp 30) (.tmp 39) 93 rfl 97 i97 _ 24 Tryz.underlying93 HI.out.1 HI.out.2.1 HI.out.2.2.1 HI.out.2.2.2 rfl (by decide) (by decide) w.heap.size _ _ rfl HOWN.out ⟨hrow.symm, by rw [hrow]; rfl, by rw [hrow]; simp [Value.oneCell']⟩ wr.heap.size rfl rfl (by rw [stepsR_len]; omega) HS.out.size ?_; intro v' w7 ho7 hb7)
      have hs7 : Since w w7 := Below.trans HS.out hb7
      rw [← stepsR_succ] at ho7
      go_wp2_with fail
      go_roundw
      case rel => exact ⟨q + 1, by omega, by rw [hsq, Int.natCast_add], fun j hj => by
        rcases Nat.lt_or_ge j q with h | h
        · exact hlo j h
        · obtain rfl : j = q := by omega
          omega, hs7, ho7⟩
      case measure => simp [intOf]; omega
    · have hmi : ¬ ((q * sz : Nat) : Int) < x := by omega
      generalize hm : q * sz = m at *
      go_wp2_with fail
      go_ret2
      exact ⟨_, _, q, rfl, HOWN.out, by omega, hq, hlo, HS.out⟩
end Go.Proofs.YtbilddeepnnogaaGreatDoor
end
/- Small words: rows that make has made; what has turned one block. -/
section
set_option linter.unusedVariables false
set_option maxRecDepth 100000
namespace Go.Proofs.YtbilddeepnnogaaGreatDoor
open Go.RowKit Go.Shelf

theorem made_at (v : Value) : ∀ n j : Nat, j < n → (madeCells #[v] n)[j]? = some v := by
  intro n j hj
  rw [← Array.getElem?_toList, toList_madeCells_one, List.getElem?_replicate, if_pos hj]
theorem only_of_since (b : Nat) {w w' : World} (h : Since w w') : Only b w w' := ⟨h.os, h.tape, h.output, h.size, fun k hk _ => h.block k hk⟩
theorem NdOp.words {o : ByteArray} {m : Nat} (h : NdOp o m) : o = ⟨#[78, 101, 103]⟩ ∨ o = ⟨#[65, 98, 115]⟩ ∨ o = ⟨#[73, 100, 101, 110, 116, 105, 116, 121]⟩ ∨ o = ⟨#[65, 100, 100]⟩ := by
  rcases h with ⟨h | h | h, _⟩ | ⟨h, _⟩
  · exact .inl h
  · exact .inr (.inl h)
  · exact .inr (.inr (.inl h))
  · exact .inr (.inr (.inr h))
end Go.Proofs.YtbilddeepnnogaaGreatDoor
end
/- Runs: elements as bytes. -/
section
set_option linter.unusedVariables false
set_option maxRecDepth 100000
namespace Go.Proofs.YtbilddeepnnogaaGreatDoor
open Go.RowKit Go.Shelf

/-- Numbers in a slice. -/
def Nums (w : World) (A : Option Addr) (ds : List Int) : Prop := ∀ (j : Nat) (d : Int), ds[j]? = some d → ∃ b off, A = some ⟨b, off, none⟩ ∧ w.cell? ⟨b, off + j, none⟩ = some (.int .i64 d)
theorem Nums.since {w w' : World} {A : Option Addr} {ds : List Int} (h : Nums w A ds) (hb : Since w w') : Nums w' A ds := by
  intro j d hj
  obtain ⟨b, off, rfl, q⟩ := h j d hj
  exact ⟨b, off, rfl, (hb.cell (p := ⟨b, off + j, none⟩) (World.block_lt_of_cell? w ⟨b, off + j, none⟩ q)).trans q⟩
set_option maxHeartbeats 1600000 in
theorem put156 (d : Int) (q : Nat) (w : World) (hq : w.cell? ⟨q, 0, none⟩ = some (.int .i64 6)) (h : Sm d) : Calls Tryz.prog 156 #[.int .i64 d, .pointer (some ⟨q, 0, none⟩)] w fun e w' => e = .returned (.bool false) ∧ w' = w := by
  go_enter Tryz.func156, Tryz.ntmps156
  go_wp2_with (go_at_call 87; refine (check6_any _ _ h).mono ?_; rintro e w' ⟨rfl, rfl⟩)
  go_ret
  exact ⟨rfl, rfl⟩
set_option maxHeartbeats 1600000 in
theorem idx160 (A : Option Addr) (c : Nat) (ds : List Int) (q : Nat) (w : World) (hq : w.cell? ⟨q, 0, none⟩ = some (.int .i64 6)) (h : ∀ d ∈ ds, Sm d) (hl : ds.length ≤ 30) (hn : Nums w A ds) : Calls Tryz.prog 160 #[.slice A ds.length c, .func (.func 156) #[] #[.pointer (some ⟨q, 0, none⟩)]] w fun e w' => e = .returned (.int .i64 (-1)) ∧ w' = w := by
  have hnl : (ds.length : Int) ≤ 30 := by omega
  have HN := Lib.hid hn
  clear hn
  go_enter Tryz.func160, Tryz.ntmps160
  go_wp2_with fail
  go_loopw [8] (fun i wr => ∃ k : Nat, k ≤ ds.length ∧ i = .int .i64 k ∧ wr = w) (fun i _ => ds.length - (intOf i).toNat)
  case atStart => exact ⟨0, by omega, rfl, rfl⟩
  case round =>
    obtain ⟨k, hk, rfl, rfl⟩ := hrel
    by_cases hlt : k < ds.length
    · obtain ⟨d, hd⟩ : ∃ d, ds[k]? = some d := ⟨_, List.getElem?_eq_getElem hlt⟩
      obtain ⟨b, off, rfl, c0⟩ := HN.out k d hd
      have hC := put156 d q wr hq (h d (List.mem_of_getElem? hd))
      have hki : (k : Int) < ds.length := by omega
      clear hd
      go_wp2_with (go_at_call 156; refine hC.mono ?_; rintro e w3 ⟨rfl, rfl⟩)
      exact ⟨⟨k + 1, by omega, by go_num, trivial⟩, by simp [intOf]; omega⟩
    · obtain rfl : k = ds.length := by omega
      go_wp2_with fail
      go_ret
      exact ⟨rfl, rfl⟩
set_option maxHeartbeats 1600000 in
theorem put90 (A : Option Addr) (c : Nat) (ds : List Int) (q : Nat) (w : World) (hq : w.cell? ⟨q, 0, none⟩ = some (.int .i64 6)) (h : ∀ d ∈ ds, Sm d) (hl : ds.length ≤ 30) (hn : Nums w A ds) : Calls Tryz.prog 90 #[.slice A ds.length c, .func (.func 156) #[] #[.pointer (some ⟨q, 0, none⟩)]] w fun e w' => e = .returned (.bool false) ∧ w' = w := by
  have hC := idx160 A c ds q w hq h hl hn
  clear hn
  go_enter Tryz.func90, Tryz.ntmps90
  go_wp2_with (go_at_call 160; refine hC.mono ?_; rintro e w3 ⟨rfl, rfl⟩)
  go_ret
  exact ⟨rfl, rfl⟩
theorem row_keep {w w' : World} {B : Nat} {e : TypeId} {s : Nat} {v : Value} {n : Nat} {xs : List Value} (h : w.ownsRow B e s v n xs) (hk : ∀ k, v.ownBlock = some k → w'.heap[k]? = w.heap[k]?) : w'.ownsRow B e s v n xs := by
  obtain ⟨h1, h2⟩ := h
  refine ⟨h1, ?_⟩
  rcases h2 with h2 | ⟨g, cap, cur, rfl, h3, h4, h5⟩
  · exact .inl h2
  · exact .inr ⟨g, cap, cur, rfl, h3, (hk g rfl).trans h4, h5⟩
theorem row_lt {w : World} {B : Nat} {e : TypeId} {s : Nat} {g n c : Nat} {xs : List Value} (h : w.ownsRow B e s (.slice (some ⟨g, 0, none⟩) n c) n xs) : B ≤ g ∧ g < w.heap.size := by
  obtain ⟨h1, h2⟩ := h
  rcases h2 with ⟨h2, _⟩ | ⟨g', cap, cur, h2, h3, h4, h5⟩
  · cases h2
  · cases h2
    exact ⟨h3, (Array.getElem?_eq_some_iff.1 h4).1⟩
theorem only_since (g : Nat) {w wr w' : World} (h : Since w wr) (hg : w.heap.size ≤ g) (ho : Only g wr w') : Since w w' := Below.trans h (ho.below hg h.size)
/-- The bytes of a number, the lowest first. -/
def byteOf (d : Int) (i : Nat) : Value := .int .u8 (d / 256 ^ i % 256)
def bytesOf (d : Int) : List Value := [byteOf d 0, byteOf d 1, byteOf d 2, byteOf d 3]
theorem Tryz.info5 : (Tryz.prog.info? 5).map (fun i => (i.zero, i.size, i.bytes)) = some (some (.int .u8 0), 1, 1) := by kernel_rfl
set_option maxHeartbeats 3200000 in
theorem put_any (A : Option Addr) (c : Nat) (ds : List Int) (w : World) (h : ∀ d ∈ ds, Sm d) (hl : ds.length ≤ 30) (hn : Nums w A ds) : Calls Tryz.prog 83 #[.int .i64 6, .slice A ds.length c] w fun e w' => ∃ g, e = .returned (.tuple #[.slice (some ⟨g, 0, none⟩) (ds.length * 4) (ds.length * 4), .int .i64 0]) ∧ w'.ownsRow w.heap.size 5 1 (.slice (some ⟨g, 0, none⟩) (ds.length * 4) (ds.length * 4)) (ds.length * 4) (ds.flatMap bytesOf) ∧ Since w w' := by
  have hnl : (ds.length : Int) ≤ 30 := by omega
  have HN := Lib.hid hn
  obtain ⟨i5, hi5⟩ : ∃ i, Tryz.prog.info? 5 = some i ∧ i.zero = some (.int .u8 0) ∧ i.size = 1 ∧ i.bytes = 1 := by
    obtain ⟨i, h1, h2, h3, h4⟩ := info_parts Tryz.info5
    exact ⟨i, h1, h2, h3, h4⟩
  have HI := Lib.hid hi5
  clear hn hi5
  go_enter Tryz.func83, Tryz.ntmps83
  go_wp2_with fail
  refine newX (F := fun W => Calls _ _ _ W _) ?_
  intro w1 h1
  have c6 := (cells1 (h1.b0 rfl)).1
  have HX := Lib.hid h1
  have hB := put90 A c ds w.heap.size w1 c6 h hl (HN.out.since h1.below)
  clear h1
  refine (check6_any _ _ sm0).mono ?_
  rintro e w' ⟨rfl, rfl⟩
  go_wp2_with (first | (go_at_call 90; refine hB.mono ?_; rintro e w3 ⟨rfl, rfl⟩) | (go_at_call 157; refine (width157 _).mono ?_; rintro e w4 ⟨rfl, rfl⟩) | (at_make; refine wpList_make_own _ rfl (.const (.int .i64 0)) (.tmp 24) 114 rfl w.heap.size 5 i5 (.int .u8 0) 1 Tryz.underlying114 HI.out.1 HI.out.2.1 HI.out.2.2.1 .i64 .i64 (4 * ds.length) (ds.length * 4) rfl rfl (by omega) (by rw [HI.out.2.2.2]; omega) (by unfold maxLen; omega) HX.out.below.size ?_; intro w5 hown5 hg5))
  generalize hg : w4.heap.size = g at hown5 ⊢
  have hs5 : Since w w5 := Since.trans HX.out.below ⟨hg5.os, hg5.tape, hg5.output, hg5.size, fun k hk => hg5.block k hk (by simp)⟩
  have HO5 := Lib.hid hown5
  have HS5 := Lib.hid hs5
  clear hown5 hg5 hs5 c6 hB
  go_wp2_with fail
  go_loopw [7, 28] (fun v i wr => ∃ k : Nat, k ≤ ds.length ∧ i = .int .i64 k ∧ v = .slice (some ⟨g, 0, none⟩) (k * 4) (ds.length * 4) ∧ Since w wr ∧ wr.ownsRow w.heap.size 5 1 (.slice (some ⟨g, 0, none⟩) (k * 4) (ds.length * 4)) (k * 4) ((ds.take k).flatMap bytesOf)) (fun _ i _ => ds.length - (intOf i).toNat)
  case atStart => exact ⟨0, by omega, rfl, by rw [Nat.zero_mul], HS5.out, by rw [Nat.zero_mul]; exact HO5.out⟩
  case round =>
    obtain ⟨k, hk, rfl, rfl, hs, hown⟩ := hrel
    by_cases hlt : k < ds.length
    · obtain ⟨d, hd⟩ : ∃ d, ds[k]? = some d := ⟨_, List.getElem?_eq_getElem hlt⟩
      obtain ⟨b, off, rfl, c0⟩ := HN.out.since hs k d hd
      have hsm := h d (List.mem_of_getElem? hd)
      have hki : (k : Int) < ds.length := by omega
      have HS := Lib.hid hs
      have HOWN := Lib.hid hown
      clear hs hown
      go_wp2_with fail
      refine wp_loop_rounds 5 ?_
      rw [rounds_succ]
      go_wp2_with (at_builtin; refine wpList_append_fits (wr.alloc (.cells #[.int .u8 (d % 256)] 5)) rfl (.tmp 36) (.tmp 42) 114 rfl w.heap.size 5 i5 1 Tryz.underlying114 HI.out.1 HI.out.2.2.1 g (k * 4) (ds.length * 4) ((ds.take k).flatMap bytesOf) rfl (row_keep HOWN.out (fun j hj => (below_new _ _).block j (by cases hj; exact (row_lt HOWN.out).2))) ⟨wr.heap.size, 0, none⟩ 1 1 [.int .u8 (d % 256)] rfl rfl (by intro j u hj; cases j with | zero => cases hj; exact cell_of_row _ _ 0 _ 5 (0, 0) (heap_alloc_new wr _) | succ j => cases hj) (by simp [Value.oneCell']) (by omega) ?_; intro w10 hown0 hgr0; have hb0 : Since w w10 := only_since g HS.out (row_lt HOWN.out).1 ((only_of_since g ((Since.refl wr).al _)).trans (grown_only hgr0)); have HO0 := Lib.hid hown0; have HS_0 := Lib.hid hb0; clear hown0 hgr0 hb0)
      rw [rounds_succ]
      go_wp2_with (at_builtin; refine wpList_append_fits (w10.alloc (.cells #[.int .u8 (d / 256 % 256)] 5)) rfl (.tmp 36) (.tmp 42) 114 rfl w.heap.size 5 i5 1 Tryz.underlying114 HI.out.1 HI.out.2.2.1 g (k * 4 + 1) (ds.length * 4) (((ds.take k).flatMap bytesOf ++ [.int .u8 (d % 256)])) rfl (row_keep HO0.out (fun j hj => (below_new _ _).block j (by cases hj; exact (row_lt HO0.out).2))) ⟨w10.heap.size, 0, none⟩ 1 1 [.int .u8 (d / 256 % 256)] rfl rfl (by intro j u hj; cases j with | zero => cases hj; exact cell_of_row _ _ 0 _ 5 (0, 0) (heap_alloc_new w10 _) | succ j => cases hj) (by simp [Value.oneCell']) (by omega) ?_; intro w11 hown1 hgr1; have hb1 : Since w w11 := only_since g HS_0.out (row_lt HO0.out).1 ((only_of_since g ((Since.refl w10).al _)).trans (grown_only hgr1)); have HO1 := Lib.hid hown1; have HS_1 := Lib.hid hb1; clear hown1 hgr1 hb1)
      rw [rounds_succ]
      go_wp2_with (at_builtin; refine wpList_append_fits (w11.alloc (.cells #[.int .u8 (d / 65536 % 256)] 5)) rfl (.tmp 36) (.tmp 42) 114 rfl w.heap.size 5 i5 1 Tryz.underlying114 HI.out.1 HI.out.2.2.1 g (k * 4 + 1 + 1) (ds.length * 4) ((((ds.take k).flatMap bytesOf ++ [.int .u8 (d % 256)]) ++ [.int .u8 (d / 256 % 256)])) rfl (row_keep HO1.out (fun j hj => (below_new _ _).block j (by cases hj; exact (row_lt HO1.out).2))) ⟨w11.heap.size, 0, none⟩ 1 1 [.int .u8 (d / 65536 % 256)] rfl rfl (by intro j u hj; cases j with | zero => cases hj; exact cell_of_row _ _ 0 _ 5 (0, 0) (heap_alloc_new w11 _) | succ j => cases hj) (by simp [Value.oneCell']) (by omega) ?_; intro w12 hown2 hgr2; have hb2 : Since w w12 := only_since g HS_1.out (row_lt HO1.out).1 ((only_of_since g ((Since.refl w11).al _)).trans (grown_only hgr2)); have HO2 := Lib.hid hown2; have HS_2 := Lib.hid hb2; clear hown2 hgr2 hb2)
      rw [rounds_succ]
      go_wp2_with (at_builtin; refine wpList_append_fits (w12.alloc (.cells #[.int .u8 (d / 16777216 % 256)] 5)) rfl (.tmp 36) (.tmp 42) 114 rfl w.heap.size 5 i5 1 Tryz.underlying114 HI.out.1 HI.out.2.2.1 g (k * 4 + 1 + 1 + 1) (ds.length * 4) (((((ds.take k).flatMap bytesOf ++ [.int .u8 (d % 256)]) ++ [.int .u8 (d / 256 % 256)]) ++ [.int .u8 (d / 65536 % 256)])) rfl (row_keep HO2.out (fun j hj => (below_new _ _).block j (by cases hj; exact (row_lt HO2.out).2))) ⟨w12.heap.size, 0, none⟩ 1 1 [.int .u8 (d / 16777216 % 256)] rfl rfl (by intro j u hj; cases j with | zero => cases hj; exact cell_of_row _ _ 0 _ 5 (0, 0) (heap_alloc_new w12 _) | succ j => cases hj) (by simp [Value.oneCell']) (by omega) ?_; intro w13 hown3 hgr3; have hb3 : Since w w13 := only_since g HS_2.out (row_lt HO2.out).1 ((only_of_since g ((Since.refl w12).al _)).trans (grown_only hgr3)); have HO3 := Lib.hid hown3; have HS_3 := Lib.hid hb3; clear hown3 hgr3 hb3)
      rw [rounds_succ]
      go_wp2_with fail
      have e4 : k * 4 + 1 + 1 + 1 + 1 = (k + 1) * 4 := by omega
      have hfin := HO3.out
      rw [e4, show (ds.take k).flatMap bytesOf ++ [Value.int .u8 (d % 256)] ++ [.int .u8 (d / 256 % 256)] ++ [.int .u8 (d / 65536 % 256)] ++ [.int .u8 (d / 16777216 % 256)] = (ds.take (k + 1)).flatMap bytesOf by rw [List.take_add_one, hd]; simp [bytesOf, byteOf]] at hfin
      exact ⟨⟨k + 1, by omega, by go_num, by rw [e4], HS_3.out, hfin⟩, by simp [intOf]; omega⟩
    · obtain rfl : k = ds.length := by omega
      rw [List.take_length] at hown
      have HS := Lib.hid hs
      have HOWN := Lib.hid hown
      clear hs hown
      go_wp2_with fail
      go_ret2
      exact ⟨g, rfl, HOWN.out, HS.out⟩
end Go.Proofs.YtbilddeepnnogaaGreatDoor
end
/- Runs: bytes as elements. -/
section
set_option linter.unusedVariables false
set_option maxRecDepth 100000
namespace Go.Proofs.YtbilddeepnnogaaGreatDoor
open Go.RowKit Go.Shelf

theorem or_byte (d : Int) (i : Nat) (hi : i < 4) : bits .or .u64 (d % 256 ^ i) (IntKind.u64.wrap (d / 256 ^ i % 256 * 2 ^ (8 * i))) = d % 256 ^ (i + 1) := by
  have hy0 : 0 ≤ d / 256 ^ i % 256 := Int.emod_nonneg _ (by decide)
  have hy1 : d / 256 ^ i % 256 < 256 := Int.emod_lt_of_pos _ (by decide)
  have hu0 : 0 ≤ d % 256 ^ i := Int.emod_nonneg _ (by rcases (show i = 0 ∨ i = 1 ∨ i = 2 ∨ i = 3 by omega) with rfl | rfl | rfl | rfl <;> decide)
  have hu1 : d % 256 ^ i < 256 ^ i := Int.emod_lt_of_pos _ (by rcases (show i = 0 ∨ i = 1 ∨ i = 2 ∨ i = 3 by omega) with rfl | rfl | rfl | rfl <;> decide)
  have hw : IntKind.u64.wrap (d / 256 ^ i % 256 * 2 ^ (8 * i)) = d / 256 ^ i % 256 * 2 ^ (8 * i) := by
    refine IntWalk.u64_in _ ?_
    rcases (show i = 0 ∨ i = 1 ∨ i = 2 ∨ i = 3 by omega) with rfl | rfl | rfl | rfl <;> simp at hy0 hy1 ⊢ <;> omega
  rw [hw, bits_join_low .u64 64 (by decide) wraps_u64 (8 * i) _ _ hu0 ?_ ?_ ?_ (Int.mul_emod_left _ _) ?_]
  all_goals (rcases (show i = 0 ∨ i = 1 ∨ i = 2 ∨ i = 3 by omega) with rfl | rfl | rfl | rfl <;> simp at hy0 hy1 hu0 hu1 ⊢ <;> omega)
theorem back_int (d : Int) (h : Sm d) : IntKind.i32.wrap (d % 256 ^ 4) = d := by
  unfold Sm at h
  rw [IntKind.wrap_i32]
  omega
/-- The bytes of numbers in a slice. -/
def Byts (w : World) (A : Option Addr) (ds : List Int) : Prop := ∀ (j : Nat) (d : Int), ds[j]? = some d → ∃ b off, A = some ⟨b, off, none⟩ ∧ ∀ i, i < 4 → w.cell? ⟨b, off + (j * 4 + i), none⟩ = some (byteOf d i)
theorem Byts.since {w w' : World} {A : Option Addr} {ds : List Int} (h : Byts w A ds) (hb : Since w w') : Byts w' A ds := by
  intro j d hj
  obtain ⟨b, off, rfl, q⟩ := h j d hj
  exact ⟨b, off, rfl, fun i hi => (hb.cell (p := ⟨b, _, none⟩) (World.block_lt_of_cell? w ⟨b, _, none⟩ (q i hi))).trans (q i hi)⟩
theorem Tryz.info2' : (Tryz.prog.info? 2).map (fun i => (i.zero, i.size, i.bytes)) = some (some (.int .i64 0), 1, 8) := by kernel_rfl
set_option maxHeartbeats 3200000 in
theorem get_any (A : Option Addr) (c : Nat) (ds : List Int) (w : World) (h : ∀ d ∈ ds, Sm d) (hl : ds.length ≤ 30) (hc : ds.length * 4 ≤ c) (hn : Byts w A ds) : Calls Tryz.prog 151 #[.int .i64 6, .slice A (ds.length * 4) c] w fun e w' => ∃ v, e = .returned (.tuple #[v, .int .i64 0]) ∧ OwnL repInt 2 w' w.heap.size (fun _ => False) v ds ∧ Since w w' := by
  have hnl : (ds.length : Int) ≤ 30 := by omega
  have HN := Lib.hid hn
  obtain ⟨i2, hi2⟩ : ∃ i, Tryz.prog.info? 2 = some i ∧ i.zero = some (.int .i64 0) ∧ i.size = 1 ∧ i.bytes = 8 := by
    obtain ⟨i, h1, h2, h3, h4⟩ := info_parts Tryz.info2'
    exact ⟨i, h1, h2, h3, h4⟩
  have HI := Lib.hid hi2
  obtain ⟨len, hlen⟩ : ∃ len, len = ds.length * 4 := ⟨_, rfl⟩
  rw [← hlen] at hc ⊢
  have hlen4 : (len : Int).tmod 4 = 0 := by rw [Int.tmod_eq_emod_of_nonneg (by omega)]; omega
  clear hn hi2
  go_enter Tryz.func151, Tryz.ntmps151
  go_wp2_with (first | (go_at_call 87; refine (check6_any _ _ sm0).mono ?_; rintro e w' ⟨rfl, h'⟩; obtain rfl := h'.symm) | (go_at_call 157; refine (width157 _).mono ?_; rintro e w4 ⟨rfl, h'⟩; obtain rfl := h'.symm))
  go_loopw [1, 7] (fun v1 v7 wr => ∃ k m A1 c1, k + m = ds.length ∧ v1 = .slice A1 (m * 4) c1 ∧ m * 4 ≤ c1 ∧ (∀ b off, A = some ⟨b, off, none⟩ → 0 < m → A1 = some ⟨b, off + k * 4, none⟩) ∧ Since w wr ∧ OwnL repInt 2 wr w.heap.size (fun _ => False) v7 (ds.take k)) (fun v1 _ _ => (match v1 with | .slice _ n _ => n | _ => 0))
  case atStart => exact ⟨0, ds.length, A, c, by omega, by first | rfl | rw [hlen], by omega, fun b off e _ => by rw [e, Nat.zero_mul, Nat.add_zero], Since.refl _, ownL_nil⟩
  case round =>
    obtain ⟨k, m, A1, c1, hkm, rfl, hmc, hA, hs, hown⟩ := hrel
    rcases Nat.eq_zero_or_pos m with rfl | hm0
    · obtain rfl : k = ds.length := by omega
      rw [List.take_length] at hown
      have HS := Lib.hid hs
      have HOWN := Lib.hid hown
      clear hs hown
      go_wp2_with fail
      go_ret2
      exact ⟨_, rfl, HOWN.out, HS.out⟩
    · obtain ⟨d, hd⟩ : ∃ d, ds[k]? = some d := ⟨_, List.getElem?_eq_getElem (by omega)⟩
      obtain ⟨b, off, rfl, hcc⟩ := HN.out.since hs k d hd
      have hA1 := hA b off rfl hm0
      clear hA
      subst hA1
      have hsm := h d (List.mem_of_getElem? hd)
      have hmi : (0 : Int) < (m : Int) * 4 := by omega
      have HS := Lib.hid hs
      have HOWN := Lib.hid hown
      clear hs hown
      go_wp2_with fail
      have hcv : IntKind.i32.wrap (d % 256 ^ 4) = d := back_int d hsm
      have hm4 : 4 ≤ m * 4 := by omega
      go_loopw [8, 30] (fun v8 i wy => ∃ t : Nat, t ≤ 4 ∧ i = .int .i64 t ∧ v8 = .int .u64 (d % 256 ^ t) ∧ wy = wr) (fun _ i _ => 4 - (intOf i).toNat)
      case atStart => exact ⟨0, by omega, rfl, by simp, rfl⟩
      case round =>
        obtain ⟨t, ht, rfl, rfl, rfl⟩ := hrel
        by_cases htl : t < 4
        · have q0 := hcc t htl
          rw [show off + (k * 4 + t) = off + k * 4 + t by omega, byteOf] at q0
          have hw := or_byte d t htl
          have hy0 : 0 ≤ d / 256 ^ t % 256 := Int.emod_nonneg _ (by decide)
          have hy1 : d / 256 ^ t % 256 < 256 := Int.emod_lt_of_pos _ (by decide)
          generalize hu2 : d % 256 ^ (t + 1) = u2 at hw
          generalize d / 256 ^ t % 256 = y at *
          generalize d % 256 ^ t = u at *
          have hti : (t : Int) < m * 4 := by omega
          have htl' : (t : Int) < 4 := by omega
          go_wp2_with fail
          exact ⟨⟨t + 1, by omega, by go_num, by rw [hu2], trivial⟩, by simp [intOf]; omega⟩
        · obtain rfl : t = 4 := by omega
          obtain ⟨Av, cv, hv⟩ := HOWN.out.form
          rw [List.length_take, Nat.min_eq_left (by omega)] at hv
          subst hv
          have hu40 : 0 ≤ d % 256 ^ 4 := Int.emod_nonneg _ (by decide)
          have hu41 : d % 256 ^ 4 < 256 ^ 4 := Int.emod_lt_of_pos _ (by decide)
          rw [show (256 : Int) ^ 4 = 4294967296 by decide] at hu40 hu41 hcv ⊢
          generalize d % 4294967296 = u4 at hcv hu40 hu41 ⊢
          have hd0 : -1000000 ≤ d := hsm.1
          have hd1 : d ≤ 1000000 := hsm.2
          rcases Nat.lt_or_ge 4 c1 with hc4 | hc4
          · have hc4' : ¬ c1 = 4 := by omega
            go_wp2_with (first | (go_at_call 87; refine (check6_any _ _ hsm).mono ?_; rintro e w' ⟨rfl, h'⟩; obtain rfl := h'.symm) | (at_builtin; refine wpList_append_f wr repInt flatInt d [.int .i64 d] rfl (.tmp 55) (.tmp 57) 22 rfl 2 i2 _ 8 Tryz.underlying22 HI.out.1 HI.out.2.1 HI.out.2.2.1 HI.out.2.2.2 rfl (by decide) (by decide) w.heap.size _ _ rfl HOWN.out rfl wr.heap.size rfl rfl (by rw [List.length_take]; omega) HS.out.size ?_; intro v' w7 ho7 hb7))
            have e1 : m * 4 - 4 = (m - 1) * 4 := by omega
            refine ⟨⟨k + 1, m - 1, _, _, by omega, by rw [e1], by omega, fun b' off' e _ => ?_, Below.trans HS.out hb7, by rw [List.take_add_one, hd]; exact ho7⟩, ?_⟩
            · cases e
              rw [show off + (k + 1) * 4 = off + k * 4 + 4 by omega]
            · show m * 4 - 4 < m * 4
              omega
          · obtain rfl : c1 = 4 := by omega
            obtain rfl : m = 1 := by omega
            go_wp2_with (first | (go_at_call 87; refine (check6_any _ _ hsm).mono ?_; rintro e w' ⟨rfl, h'⟩; obtain rfl := h'.symm) | (at_builtin; refine wpList_append_f wr repInt flatInt d [.int .i64 d] rfl (.tmp 55) (.tmp 57) 22 rfl 2 i2 _ 8 Tryz.underlying22 HI.out.1 HI.out.2.1 HI.out.2.2.1 HI.out.2.2.2 rfl (by decide) (by decide) w.heap.size _ _ rfl HOWN.out rfl wr.heap.size rfl rfl (by rw [List.length_take]; omega) HS.out.size ?_; intro v' w7 ho7 hb7))
            exact ⟨⟨k + 1, 0, _, _, by omega, rfl, by omega, fun b' off' e h => by omega, Below.trans HS.out hb7, by rw [List.take_add_one, hd]; exact ho7⟩, Nat.zero_lt_succ 3⟩
end Go.Proofs.YtbilddeepnnogaaGreatDoor
end
/- Tensors of one dimension: which may be; views of such. -/
section
set_option linter.unusedVariables false
set_option maxRecDepth 100000
namespace Go.Proofs.YtbilddeepnnogaaGreatDoor
open Go.RowKit Go.Shelf

/-- A tensor of small numbers. -/
structure TnOk (w : World) (Ad At : Option Addr) (x : Nat) (ds : List Int) : Prop where
  len : ds.length = x
  lo : 1 ≤ x
  hi : x ≤ 30
  dim : One w Ad x
  nums : Nums w At ds
  sm : ∀ d ∈ ds, Sm d
theorem TnOk.since {w w' : World} {Ad At : Option Addr} {x : Nat} {ds : List Int} (h : TnOk w Ad At x ds) (hs : Since w w') : TnOk w' Ad At x ds :=
  ⟨h.len, h.lo, h.hi, h.dim.below hs, h.nums.since hs, h.sm⟩
set_option maxHeartbeats 1600000 in
theorem tcheck91 (d : Int) (q : Nat) (w : World) (hq : w.cell? ⟨q, 0, none⟩ = some (.int .i64 6)) (h : Sm d) : Calls Tryz.prog 91 #[.int .i64 d, .pointer (some ⟨q, 0, none⟩)] w fun e w' => e = .returned (.bool false) ∧ w' = w := by
  go_enter Tryz.func91, Tryz.ntmps91
  go_wp2_with (go_at_call 87; refine (check6_any _ _ h).mono ?_; rintro e w' ⟨rfl, rfl⟩)
  go_ret
  exact ⟨rfl, rfl⟩
set_option maxHeartbeats 1600000 in
theorem tidx160 (A : Option Addr) (c : Nat) (ds : List Int) (q : Nat) (w : World) (hq : w.cell? ⟨q, 0, none⟩ = some (.int .i64 6)) (h : ∀ d ∈ ds, Sm d) (hl : ds.length ≤ 30) (hn : Nums w A ds) : Calls Tryz.prog 160 #[.slice A ds.length c, .func (.func 91) #[] #[.pointer (some ⟨q, 0, none⟩)]] w fun e w' => e = .returned (.int .i64 (-1)) ∧ w' = w := by
  have hnl : (ds.length : Int) ≤ 30 := by omega
  have HN := Lib.hid hn
  clear hn
  go_enter Tryz.func160, Tryz.ntmps160
  go_wp2_with fail
  go_loopw [8] (fun i wr => ∃ k : Nat, k ≤ ds.length ∧ i = .int .i64 k ∧ wr = w) (fun i _ => ds.length - (intOf i).toNat)
  case atStart => exact ⟨0, by omega, rfl, rfl⟩
  case round =>
    obtain ⟨k, hk, rfl, rfl⟩ := hrel
    by_cases hlt : k < ds.length
    · obtain ⟨d, hd⟩ : ∃ d, ds[k]? = some d := ⟨_, List.getElem?_eq_getElem hlt⟩
      obtain ⟨b, off, rfl, c0⟩ := HN.out k d hd
      have hC := tcheck91 d q wr hq (h d (List.mem_of_getElem? hd))
      have hki : (k : Int) < ds.length := by omega
      clear hd
      go_wp2_with (go_at_call 91; refine hC.mono ?_; rintro e w3 ⟨rfl, rfl⟩)
      exact ⟨⟨k + 1, by omega, by go_num, trivial⟩, by simp [intOf]; omega⟩
    · obtain rfl : k = ds.length := by omega
      go_wp2_with fail
      go_ret
      exact ⟨rfl, rfl⟩
set_option maxHeartbeats 1600000 in
theorem tc90 (A : Option Addr) (c : Nat) (ds : List Int) (q : Nat) (w : World) (hq : w.cell? ⟨q, 0, none⟩ = some (.int .i64 6)) (h : ∀ d ∈ ds, Sm d) (hl : ds.length ≤ 30) (hn : Nums w A ds) : Calls Tryz.prog 90 #[.slice A ds.length c, .func (.func 91) #[] #[.pointer (some ⟨q, 0, none⟩)]] w fun e w' => e = .returned (.bool false) ∧ w' = w := by
  have hC := tidx160 A c ds q w hq h hl hn
  clear hn
  go_enter Tryz.func90, Tryz.ntmps90
  go_wp2_with (go_at_call 160; refine hC.mono ?_; rintro e w3 ⟨rfl, rfl⟩)
  go_ret
  exact ⟨rfl, rfl⟩
theorem typed43 (w : World) : Calls Tryz.prog 43 #[.int .i64 6] w fun e w' => e = .returned (.bool true) ∧ w' = w := by
  go_enter Tryz.func43, Tryz.ntmps43
  go_wp2_with (go_at_call 87; refine (check6_any _ _ sm0).mono ?_; rintro e w' ⟨rfl, rfl⟩)
  go_ret
  exact ⟨rfl, rfl⟩
set_option maxHeartbeats 3200000 in
theorem pcheck_any (Ad At : Option Addr) (cd ct x : Nat) (ds : List Int) (w : World) (h : TnOk w Ad At x ds) :
    Calls Tryz.prog 44 #[.agg #[.int .i64 6, .slice Ad 1 cd, .slice At x ct]] w fun e w' => e = .returned (.int .i64 0) ∧ Since w w' := by
  have H := Lib.hid h
  obtain ⟨rfl, h1, h2, -, -, -⟩ := h
  have hnl : (ds.length : Int) ≤ 30 := by omega
  have hn1 : (1 : Int) ≤ ds.length := by omega
  go_enter Tryz.func44, Tryz.ntmps44
  go_wp2_with fail
  refine newX (F := fun W => Calls _ _ _ W _) ?_
  intro w1 hx
  obtain ⟨b0, b1, b2, -⟩ := cells3 (hx.b0 rfl)
  have HX := Lib.hid hx
  have zx := hx.size
  simp only [List.length_singleton] at zx
  have hC := count1_any w1 Ad cd ds.length (H.out.since hx.below).dim hn1 hnl
  have hT := tc90 At ct ds w.heap.size w1 b0 H.out.sm (by omega) (H.out.since hx.below).nums
  clear hx
  refine (typed43 _).mono ?_
  rintro e w3 ⟨rfl, rfl⟩
  go_wp2_with (first | (go_at_call 42; refine hC.mono ?_; rintro e w3 ⟨rfl, rfl⟩) | (go_at_call 90; refine hT.mono ?_; rintro e w3 ⟨rfl, rfl⟩))
  go_ret
  exact ⟨rfl, HX.out.below⟩
theorem far362 (s : Int) (w : World) (h0 : 0 ≤ s) (h1 : s ≤ 30) : Calls Tryz.prog 362 #[.int .i64 s] w fun e w' => e = .returned (.bool false) ∧ w' = w := by
  have e0 : decide (s < 0) = false := by simpa using h0
  have e1 : decide (65536 < s) = false := by simp; omega
  have e2 : decide (s > 65536) = false := by simp; omega
  go_enter Tryz.func362, Tryz.ntmps362
  go_wp2_with fail
  go_ret
  exact ⟨rfl, rfl⟩
set_option maxHeartbeats 1600000 in
theorem cf88_one (A : Option Addr) (c : Nat) (s : Int) (w : World) (h : One w A s) (h0 : 0 ≤ s) (h1 : s ≤ 30) : Calls Tryz.prog 88 #[.slice A 1 c, .func (.func 362) #[] #[]] w fun e w' => e = .returned (.bool false) ∧ w' = w := by
  have hC : Calls Tryz.prog 159 #[.slice A 1 c, .func (.func 362) #[] #[]] w fun e w' => e = .returned (.int .i64 (-1)) ∧ w' = w := by
    obtain ⟨b, off, rfl, hb, hc⟩ := h
    go_enter Tryz.func159, Tryz.ntmps159
    go_wp2_with fail
    refine wp_loop_rounds 2 ?_
    rw [rounds_succ]
    go_wp2_with (go_at_call 362; refine (far362 _ _ h0 h1).mono ?_; rintro e w3 ⟨rfl, rfl⟩)
    rw [rounds_succ]
    go_wp2_with fail
    go_ret
    exact ⟨rfl, rfl⟩
  clear h
  go_enter Tryz.func88, Tryz.ntmps88
  go_wp2_with (go_at_call 159; refine hC.mono ?_; rintro e w3 ⟨rfl, rfl⟩)
  go_ret
  exact ⟨rfl, rfl⟩
set_option maxHeartbeats 3200000 in
theorem fine_any (Ad As : Option Addr) (cd cs : Nat) (x s : Int) (w : World) (hd : One w Ad x) (hs : One w As s) (h1 : 1 ≤ x) (h2 : x ≤ 30) (h3 : 0 ≤ s) (h4 : s ≤ 30) :
    Calls Tryz.prog 293 #[.agg #[.int .i64 0, .slice Ad 1 cd, .slice As 1 cs]] w fun e w' => e = .returned (.bool true) ∧ Since w w' := by
  have HD := Lib.hid hd
  have HS := Lib.hid hs
  clear hd hs
  go_enter Tryz.func293, Tryz.ntmps293
  go_wp2_with fail
  refine newX (F := fun W => Calls _ _ _ W _) ?_
  intro w1 hx
  obtain ⟨b0, b1, b2, -⟩ := cells3 (hx.b0 rfl)
  have HX := Lib.hid hx
  have zx := hx.size
  simp only [List.length_singleton] at zx
  have hC := count1_any w1 Ad cd x (HD.out.below hx.below) h1 h2
  have hF := cf88_one As cs s w1 (HS.out.below hx.below) h3 h4
  clear hx
  refine hC.mono ?_
  rintro e w3 ⟨rfl, rfl⟩
  go_wp2_with (first | (go_at_call 88; refine hF.mono ?_; rintro e w3 ⟨rfl, rfl⟩))
  go_ret
  exact ⟨rfl, HX.out.below⟩
end Go.Proofs.YtbilddeepnnogaaGreatDoor
end
