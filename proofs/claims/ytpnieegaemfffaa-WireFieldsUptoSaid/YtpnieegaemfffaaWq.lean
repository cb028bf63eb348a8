/- The walks: the program's Packed. -/
import Derived.Test.YtpnieegaemfffaaWp
namespace Go.Proofs.Ytpnieegaemfffaa
open Go.RowKit

theorem varint_ok (s : ByteArray) (p b : Nat) (hs : s.size ≤ 140737488351232) (hp : p ≤ s.size) {u : Int} {n : Nat} (hf : tk s p = some (u, n)) (w : World) (hc : Cur w b s p) :
    Calls Try.prog 23 #[.pointer (some ⟨b, 0, none⟩)] w fun e w' => Only b w w' ∧ e = .returned (.int .u64 u) ∧ Cur w' b s n := by
  refine (varint_any s p b w hs hp hc).mono ?_
  rintro e w' ⟨ho, ⟨f', n', h1, h2, h3⟩ | ⟨h1, _⟩⟩
  · rw [hf] at h1; cases h1; exact ⟨ho, h2, h3⟩
  · rw [hf] at h1; cases h1
theorem varint_bad (s : ByteArray) (p b : Nat) (hs : s.size ≤ 140737488351232) (hp : p ≤ s.size) (hf : tk s p = none) (w : World) (hc : Cur w b s p) :
    Calls Try.prog 23 #[.pointer (some ⟨b, 0, none⟩)] w fun e w' => Only b w w' ∧ e = .panicked bad := by
  refine (varint_any s p b w hs hp hc).mono ?_
  rintro e w' ⟨ho, ⟨f', n', h1, h2, h3⟩ | ⟨h1, h2⟩⟩
  · rw [hf] at h1; cases h1
  · exact ⟨ho, h2⟩

/-- What the inner function of Packed leaves. -/
def PackPost (s : ByteArray) (N M : Nat) (w : World) (e : Ending) (w' : World) : Prop :=
  Only2 N M w w' ∧ ((∃ l v, packS s 0 = some l ∧ e = .returned (.tuple #[]) ∧ w'.heap[M]? = some (.cells #[v] 36 (0, 0)) ∧ OwnU w' w.heap.size v l) ∨ (packS s 0 = none ∧ e = .panicked bad))

set_option maxRecDepth 100000 in
set_option maxHeartbeats 1600000 in
theorem packed1_any (s : ByteArray) (N C S M : Nat) (w : World) (hsm : s.size ≤ 16777216) (hc : Cur w N s 0)
    (hC : w.heap[C]? = some (.cells #[.pointer (some ⟨N, 0, none⟩)] 43 (0, 0))) (hS : w.heap[S]? = some (.cells #[.string s] 9 (0, 0))) (hM : w.heap[M]? = some (.cells #[.slice none 0 0] 36 (0, 0)))
    (h1 : N < C) (h2 : S < N) (h3 : C < M) :
    Calls Try.prog 28 #[.pointer (some ⟨C, 0, none⟩), .pointer (some ⟨S, 0, none⟩), .pointer (some ⟨M, 0, none⟩)] w (PackPost s N M w) := by
  have hs : s.size ≤ 140737488351232 := by omega
  obtain ⟨i0, hi, hz0, hz1, hz2⟩ := info_parts Try.info22
  have Hc := Lib.hid hc
  have HC := Lib.hid hC
  have HS := Lib.hid hS
  have HM := Lib.hid hM
  have lC := (one_cell hC).2.2
  have lS := (one_cell hS).2.2
  have lM := (one_cell hM).2.2
  have lN := hc.lt
  clear hC hS hM hc
  go_enter Try.func28, Try.ntmps28
  go_wp2_with fail
  go_loopg [] s.size (fun k wr => ∃ p : Nat, ∃ x : List Int, ∃ v : Value, p + k = s.size ∧ x.length ≤ p ∧ Hid ((packS s p).map (x ++ ·) = packS s 0) ∧ Hid (Cur wr N s p) ∧ Hid (wr.heap[M]? = some (.cells #[v] 36 (0, 0))) ∧ Hid (OwnU wr w.heap.size v x) ∧ Hid (Only2 N M w wr))
  case atStart => exact ⟨0, [], _, by omega, by simp, Lib.hid (by simp), Hc, HM, Lib.hid (ownU_nil _ _), Lib.hid (Only2.refl _ _ _)⟩
  case round =>
    obtain ⟨p, x, v, hpk, hxl, Hr, Hcu, Hm, Ho, Hb⟩ := hrel
    have HCr := Lib.hid ((Hb.out.block C lC (by omega) (by omega)).trans HC.out)
    have HSr := Lib.hid ((Hb.out.block S lS (by omega) (by omega)).trans HS.out)
    obtain ⟨k0, k1, k2⟩ := one_cell HCr.out
    obtain ⟨j0, j1, j2⟩ := one_cell HSr.out
    obtain ⟨m0, m1, m2⟩ := one_cell Hm.out
    have n0 := Hcu.out.at_
    have hsz := Hb.out.size
    by_cases hlt : p < s.size
    · have q : (decide ((p : Int) < (s.size : Int))) = true := by simp; omega
      go_wp2_with fail
      go_quiet (fail)
      go_wp2_with fail
      cases hf : tk s p with
      | none =>
        have Hf := Lib.hid (show packS s 0 = none by rw [← Hr.out, pack_bad hlt hf]; rfl)
        have Hcall := Lib.hid (varint_bad s p N hs (by omega) hf)
        clear hf
        refine wp_region_any (by kernel_rfl) ?_
        try (change wpAny _ _ _ _ _ _ _ (World.drew _))
        refine wpAny_ready (rs := [0, 1]) (by kernel_rfl) (by simp) ?_
        refine AllReady.cons rfl (fun K hK => ?_) ?_
        · go_simp
          refine hK _ _ ?_
          clear hK K
          refine wpAny_ready (rs := [1]) (by kernel_rfl) (by simp) ?_
          refine AllReady.cons rfl (fun K hK => ?_) AllReady.nil
          go_simp
          refine hK _ _ ?_
          clear hK K
          refine wpAny_ready (rs := [2]) (by kernel_rfl) (by simp) ?_
          refine AllReady.cons rfl (fun K hK => ?_) AllReady.nil
          go_simp
          (go_wp2_with (first | (go_at_call 23; refine (Hcall.out _ (Hcu.out.drewN _)).mono ?_; rintro e w1 ⟨ho, rfl⟩; exact ⟨rfl, (Hb.out.drewN _).trans (ho.two M), .inr ⟨Hf.out, rfl⟩⟩)))
        · refine AllReady.cons rfl (fun K hK => ?_) AllReady.nil
          go_simp
          refine hK _ _ ?_
          clear hK K
          refine wpAny_ready (rs := [0, 2]) (by kernel_rfl) (by simp) ?_
          refine AllReady.cons rfl (fun K hK => ?_) ?_
          · go_simp
            refine hK _ _ ?_
            clear hK K
            refine wpAny_ready (rs := [2]) (by kernel_rfl) (by simp) ?_
            refine AllReady.cons rfl (fun K hK => ?_) AllReady.nil
            go_simp
            (go_wp2_with (first | (go_at_call 23; refine (Hcall.out _ (Hcu.out.drewN _)).mono ?_; rintro e w1 ⟨ho, rfl⟩; exact ⟨rfl, (Hb.out.drewN _).trans (ho.two M), .inr ⟨Hf.out, rfl⟩⟩)))
          · refine AllReady.cons rfl (fun K hK => ?_) AllReady.nil
            go_simp
            (go_wp2_with (first | (go_at_call 23; refine (Hcall.out _ (Hcu.out.drewN _)).mono ?_; rintro e w1 ⟨ho, rfl⟩; exact ⟨rfl, (Hb.out.drewN _).trans (ho.two M), .inr ⟨Hf.out, rfl⟩⟩)))
      | some fn =>
        obtain ⟨u, n⟩ := fn
        have Hcall := Lib.hid (varint_ok s p N hs (by omega) hf)
        have Hf := Lib.hid hf
        clear hf
        go_region_law (first
          | (go_simp; go_at_call 23; refine (Hcall.out _ (Hcu.out.drewN _)).mono ?_; rintro e w1 ⟨ho, rfl, hcu1⟩; have HM1 := Lib.hid ((ho.block M m2 (by omega)).trans Hm.out); obtain ⟨m0', m1', m2'⟩ := one_cell HM1.out; have Hcu1 := Lib.hid hcu1; have Ho1 := Lib.hid ho; have Own1 := Lib.hid ((Ho.out.drewN _).only ho (by omega) hsz); have z1 : wr.heap.size ≤ w1.heap.size := ho.size; clear hcu1 ho; dsimp only)
          | (refine step_append_u1 _ u rfl (.tmp 10) (.tmp 13) 36 rfl i0 _ rfl Try.underlying36 hi hz0 hz1 hz2 w.heap.size v x rfl (Own1.out.alloc _) w1.heap.size rfl (heap_alloc_new w1 _) (by omega) (by simp; omega) ?_; intro v' w2 ho2 hg2; obtain ⟨A', c', rfl⟩ := ho2.form; have f2 : ∀ k, k < w.heap.size → w2.heap[k]? = w1.heap[k]? := fun k hk => (Ho.out.far hg2 hk (by simp; omega)).trans (Below.heap_alloc _ _ _ (by omega)); have HM2 := Lib.hid ((f2 M lM).trans HM1.out); obtain ⟨q0, q1, q2⟩ := one_cell HM2.out; have HO2 := Lib.hid ho2; have HG2 := Lib.hid hg2; have F2 := Lib.hid f2; clear f2 ho2 hg2))
        all_goals
          have hbd := (tk_bd Hf.out).2.2
          have Hmore := Lib.hid (pack_more hlt Hf.out Hr.out)
          have Hcu2 := Lib.hid (show Cur w2 N s n from (F2.out N lN).trans Hcu1.out)
          have Hb2 := Lib.hid ((((Hb.out.drewN _).trans (Ho1.out.two M)).alloc _).grown HG2.out fun k hk => (Ho.out.1.lt k hk).1)
          go_wp2_with fail
          go_roundg (s.size - n)
          case measure => omega
          case rel => exact ⟨n, x ++ [u], _, by omega, by simp; omega, Hmore, Lib.hid (Hcu2.out.far (by dsimp only; omega) _), Lib.hid (one_set HM2.out _), Lib.hid (OwnU.set_far (by simpa using HO2.out) lM _), Lib.hid (Hb2.out.snd _ _)⟩
    · have q : (decide ((p : Int) < (s.size : Int))) = false := by simp; omega
      go_wp2_with fail
      go_quiet (fail)
      go_wp2_with fail
      go_end0
      have e0 := Hr.out
      rw [pack_end hlt] at e0
      simp at e0
      exact ⟨Hb.out.drewN _, .inl ⟨x, v, e0.symm, rfl, Hm.out, Ho.out.drewN _⟩⟩
set_option maxRecDepth 100000 in
set_option maxHeartbeats 1600000 in
theorem ppacked_any (s : ByteArray) (w : World) (hs : s.size ≤ 16777216) (l : List Int) (err : Int) (h : PkIs s l err) :
    Calls Try.prog 17 #[.string s] w (LstU w l err) := by
  have H := Lib.hid h
  clear h
  go_enter Try.func17, Try.ntmps17
  go_wp2_with fail
  obtain ⟨k0, kS, kN, kC, kM⟩ := four_blocks w (.cells #[.string s] 9) (.cells #[.string s, .int .i64 0] 45) (.cells #[.pointer (some ⟨w.heap.size + 1, 0, none⟩)] 43) (.cells #[.slice none 0 0] 36)
  generalize hW : (((w.alloc (.cells #[.string s] 9)).alloc (.cells #[.string s, .int .i64 0] 45)).alloc (.cells #[.pointer (some ⟨w.heap.size + 1, 0, none⟩)] 43)).alloc (.cells #[.slice none 0 0] 36) = W at k0 kS kN kC kM ⊢
  have hbW : Below w.heap.size w W := by rw [← hW]; exact ((((Below.refl _ _).alloc (Nat.le_refl _) _).alloc (by simp) _).alloc (by simp; omega) _).alloc (by simp; omega) _
  clear hW
  have T1 := packed1_any s (w.heap.size + 1) (w.heap.size + 1 + 1) w.heap.size (w.heap.size + 1 + 1 + 1) (W.alloc (.cells #[.int .i64 0] 23)) (by omega) ((Below.heap_alloc _ _ _ (by omega)).trans kN) ((Below.heap_alloc _ _ _ (by omega)).trans kC) ((Below.heap_alloc _ _ _ (by omega)).trans kS) ((Below.heap_alloc _ _ _ (by omega)).trans kM) (by omega) (by omega) (by omega)
  refine (careful_28 _ _ _ W _ T1 ?_).mono ?_
  · rintro e w1 ⟨ho, hcase⟩
    refine ⟨?_, (ho.block _ (by simp) (by omega) (by omega)).trans (heap_alloc_new W _)⟩
    rcases hcase with ⟨_, _, _, rfl, _⟩ | ⟨_, rfl⟩
    · exact .inl rfl
    · exact .inr rfl
  rintro e w2 ⟨e1, w1, ⟨ho, hcase⟩, hend⟩
  have s1 : w.heap.size + 5 ≤ w1.heap.size := by have := ho.size; simp at this; omega
  have Hbel := Lib.hid (hbW.trans (((Below.refl _ _).alloc (by omega) _).trans (ho.below (by omega) (by omega) (by simp; omega))))
  have z1 : W.heap.size ≤ w.heap.size + 4 := by omega
  have z2 : w.heap.size + 4 ≤ W.heap.size := by omega
  clear ho hbW T1 k0 kS kN kC kM
  rcases hend with ⟨rfl, rfl, rfl⟩ | ⟨rfl, rfl, rfl⟩
  · rcases hcase with ⟨l', v, hl, _, hv, hown⟩ | ⟨_, h⟩
    · have e3 : l' = l ∧ 0 = err := by
        rcases H.out with ⟨h2, _⟩ | ⟨h2, rfl⟩
        · rw [hl] at h2; cases h2
        · rw [hl] at h2; cases h2; exact ⟨rfl, rfl⟩
      have E3 := Lib.hid e3
      have c0 : (w1.setCell ⟨W.heap.size, 0, none⟩ (.int .i64 0)).cell? ⟨w.heap.size + 1 + 1 + 1, 0, none⟩ = some v := (World.cell?_setCell_other _ _ _ _ (by first | (simp; done) | (simp; omega))).trans (one_cell hv).1
      have Hown := Lib.hid ((hown.lower (B' := w.heap.size) (by simp; omega)))
      have Hown2 := Lib.hid (OwnU.set_far (k := W.heap.size) (i := 0) hown (by simp) (.int .i64 0))
      obtain ⟨A, c, rfl⟩ := hown.form
      clear hl hv hown e3
      go_wp2
      go_ret2
      exact lstU_ret (Hown2.out.lower (by simp; omega)) rfl (Hbel.out.setCell (by dsimp only; omega) _) E3.out.1 E3.out.2
    · cases h
  · rcases hcase with ⟨_, _, _, h, _⟩ | ⟨hn, _⟩
    · cases h
    · have e3 : ([] : List Int) = l ∧ 3 = err := by
        rcases H.out with ⟨_, rfl, rfl⟩ | ⟨h2, _⟩
        · exact ⟨rfl, rfl⟩
        · rw [hn] at h2; cases h2
      have E3 := Lib.hid e3
      clear hn e3
      go_wp2
      go_ret2
      exact lstU_ret (ownU_nil _ _) rfl ((Hbel.out.alloc (by omega) _).setCell (by dsimp only; omega) _) E3.out.1 E3.out.2
end Go.Proofs.Ytpnieegaemfffaa
