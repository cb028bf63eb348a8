/- The walks: the program's Fields, its inner function. -/
import Derived.Test.YtpnieegaemfffaaWi
import Derived.Deep.RegionHeld3
import Derived.Deep.AppendLies
import Derived.Deep.LoopGhost
import Derived.Deep.RegionLaw
namespace Go.Proofs.Ytpnieegaemfffaa
open Go.RowKit

/-- One field more, at a step of a region that draws. -/
theorem step_append_f1 {P : Program} (w : World) (f : Fd) {ops : Array Oper} {o : Oper} {a : Act} {K : Act → World → Prop} {Q : Exit → Act → World → Prop} {E : Prop} (hgd : o.guard = none) (s y : Operand) (t : TypeId)
    (ho : o.op = .call { callee := .builtin .append, args := #[s, y], argTypes := #[t, t] })
    (i : TypeInfo) (z : Value) (hzc : z.cells.size = 4) (ht : P.underlying t = some (.slice 35)) (hi : P.info? 35 = some i) (hz : i.zero = some z) (hsize : i.size = 4) (hby : i.bytes = 40)
    (B : Nat) (v : Value) (l : List Fd) (hs : a.eval s = v) (hown : OwnF w B v l) (g : Nat) (hx : a.eval y = .slice (some ⟨g, 0, none⟩) 1 1)
    (hg : w.heap[g]? = some (.cells #[.int .i64 f.num, .int .i64 f.kind, .int .u64 f.u, .string f.b] 35 (0, 0)))
    (hlen : (l.length + 1) * 40 ≤ 140737488355328) (hbase : B ≤ w.heap.size)
    (h : ∀ v' w', OwnF w' B v' (l ++ [f]) → w.grownBy w' v.ownBlock → K (a.put o.dst v') w') :
    if Region.wanted o (yielded ops a.tmps) = true then Oper.wp P o a w K Q else E := by
  obtain ⟨⟨c0, c1, c2, c3⟩, _⟩ := blk4 hg
  refine step_append_lies w hgd s y t ho B 35 i z 4 40 ht hi hz hsize hby hzc (by decide) v l.length (flat l) hs hown.1 ⟨g, 0, none⟩ 1 1 f.cells hx rfl ?_ ?_ (by decide) (by unfold maxLen; omega) (by omega) hbase _ rfl ?_
  · intro j u hj
    match j, hj with
    | 0, hj => simp [Fd.cells] at hj; subst hj; simpa [Addr.add] using c0
    | 1, hj => simp [Fd.cells] at hj; subst hj; simpa [Addr.add] using c1
    | 2, hj => simp [Fd.cells] at hj; subst hj; simpa [Addr.add] using c2
    | 3, hj => simp [Fd.cells] at hj; subst hj; simpa [Addr.add] using c3
    | j + 4, hj => simp [Fd.cells] at hj
  · intro u hu
    simp [Fd.cells] at hu
    rcases hu with rfl | rfl | rfl | rfl <;> rfl
  · intro g' cap w' h2 h3 _ _
    refine h _ w' ⟨?_, by simp; unfold maxLen; omega⟩ h3
    rw [flat_append, show flat [f] = f.cells by simp [flat]]
    simpa using h2
theorem Only2.alloc {b c : Nat} {x y : World} (h : Only2 b c x y) (o : Obj) : Only2 b c x (y.alloc o) :=
  h.trans ⟨rfl, rfl, rfl, by simp, fun k hk _ _ => Below.heap_alloc _ _ _ hk⟩
theorem Only2.grown {b c : Nat} {x y z : World} {r : Option Nat} (h : Only2 b c x y) (hg : y.grownBy z r) (hr : ∀ k, r = some k → x.heap.size ≤ k) : Only2 b c x z := by
  have hb := (Below.refl x.heap.size y).grown hg h.size hr
  exact ⟨hb.os.trans h.os, hb.tape.trans h.tape, hb.output.trans h.output, Nat.le_trans h.size hb.size, fun k hk h1 h2 => (hb.block k hk).trans (h.block k hk h1 h2)⟩

theorem field_ok (s : ByteArray) (p b : Nat) (hs : s.size ≤ 140737488351232) (hp : p ≤ s.size) {f : Fd} {n : Nat} (hf : fieldS s p = some (f, n)) (w : World) (hc : Cur w b s p) :
    Calls Try.prog 26 #[.pointer (some ⟨b, 0, none⟩)] w fun e w' => Only b w w' ∧ e = .returned f.val ∧ Cur w' b s n := by
  refine (field_any s p b w hs hp hc).mono ?_
  rintro e w' ⟨ho, ⟨f', n', h1, h2, h3⟩ | ⟨h1, _⟩⟩
  · rw [hf] at h1; cases h1; exact ⟨ho, h2, h3⟩
  · rw [hf] at h1; cases h1
theorem field_bad (s : ByteArray) (p b : Nat) (hs : s.size ≤ 140737488351232) (hp : p ≤ s.size) (hf : fieldS s p = none) (w : World) (hc : Cur w b s p) :
    Calls Try.prog 26 #[.pointer (some ⟨b, 0, none⟩)] w fun e w' => Only b w w' ∧ e = .panicked bad := by
  refine (field_any s p b w hs hp hc).mono ?_
  rintro e w' ⟨ho, ⟨f', n', h1, h2, h3⟩ | ⟨h1, h2⟩⟩
  · rw [hf] at h1; cases h1
  · exact ⟨ho, h2⟩

/-- The call's own list outlives what turns one block below it. -/
theorem OwnF.only {w w' : World} {B b : Nat} {v : Value} {l : List Fd} (h : OwnF w B v l) (ho : Only b w w') (hb : b < B) (_ : B ≤ w.heap.size) : OwnF w' B v l := by
  refine ⟨⟨h.1.1, ?_⟩, h.2⟩
  rcases h.1.2 with h1 | ⟨g, cap, cur, e, hB, hg, r⟩
  · exact .inl h1
  · exact .inr ⟨g, cap, cur, e, hB, (ho.block g (Array.getElem?_eq_some_iff.1 hg).1 (by omega)).trans hg, r⟩

theorem OwnF.far {a y z : World} {B k : Nat} {v : Value} {l : List Fd} (h : OwnF a B v l) (hg : y.grownBy z v.ownBlock) (hk : k < B) (hB : B ≤ y.heap.size) : z.heap[k]? = y.heap[k]? :=
  hg.block k (by omega) fun e => by have := (h.1.lt k e.symm).1; omega

theorem OwnF.set_far {w : World} {B k i : Nat} {v : Value} {l : List Fd} (h : OwnF w B v l) (hk : k < B) (u : Value) : OwnF (w.setCell ⟨k, i, none⟩ u) B v l := by
  refine ⟨⟨h.1.1, ?_⟩, h.2⟩
  rcases h.1.2 with h1 | ⟨g, cap, cur, e, hB, hg, r⟩
  · exact .inl h1
  · exact .inr ⟨g, cap, cur, e, hB, (Below.heap_setCell _ _ _ _ (by dsimp only; omega)).trans hg, r⟩

/-- What the inner function of Fields leaves. -/
def FldsPost (s : ByteArray) (N M : Nat) (w : World) (e : Ending) (w' : World) : Prop :=
  Only2 N M w w' ∧ ((∃ l v, fieldsS s 0 = some l ∧ e = .returned (.tuple #[]) ∧ w'.heap[M]? = some (.cells #[v] 29 (0, 0)) ∧ OwnF w' w.heap.size v l) ∨ (fieldsS s 0 = none ∧ e = .panicked bad))

set_option maxRecDepth 100000 in
set_option maxHeartbeats 1600000 in
theorem fields1_any (s : ByteArray) (N C S M : Nat) (w : World) (hsm : s.size ≤ 16777216) (hc : Cur w N s 0)
    (hC : w.heap[C]? = some (.cells #[.pointer (some ⟨N, 0, none⟩)] 43 (0, 0))) (hS : w.heap[S]? = some (.cells #[.string s] 9 (0, 0))) (hM : w.heap[M]? = some (.cells #[.slice none 0 0] 29 (0, 0)))
    (h1 : N < C) (h2 : S < N) (h3 : C < M) :
    Calls Try.prog 25 #[.pointer (some ⟨C, 0, none⟩), .pointer (some ⟨S, 0, none⟩), .pointer (some ⟨M, 0, none⟩)] w (FldsPost s N M w) := by
  have hs : s.size ≤ 140737488351232 := by omega
  obtain ⟨i0, hi, hz0, hz1, hz2⟩ := info_parts Try.info35
  have Hc := Lib.hid hc
  have HC := Lib.hid hC
  have HS := Lib.hid hS
  have HM := Lib.hid hM
  have lC := (one_cell hC).2.2
  have lS := (one_cell hS).2.2
  have lM := (one_cell hM).2.2
  have lN := hc.lt
  clear hC hS hM hc
  go_enter Try.func25, Try.ntmps25
  go_wp2_with fail
  go_loopg [] s.size (fun k wr => ∃ p : Nat, ∃ x : List Fd, ∃ v : Value, p + k = s.size ∧ x.length ≤ p ∧ Hid ((fieldsS s p).map (x ++ ·) = fieldsS s 0) ∧ Hid (Cur wr N s p) ∧ Hid (wr.heap[M]? = some (.cells #[v] 29 (0, 0))) ∧ Hid (OwnF wr w.heap.size v x) ∧ Hid (Only2 N M w wr))
  case atStart => exact ⟨0, [], _, by omega, by simp, Lib.hid (by simp), Hc, HM, Lib.hid (ownF_nil _ _), Lib.hid (Only2.refl _ _ _)⟩
  case round =>
    obtain ⟨p, x, v, hpk, hxl, Hr, Hcu, Hm, Ho, Hb⟩ := hrel
    have HCr := Lib.hid ((Hb.out.block C lC (by omega) (by omega)).trans HC.out)
    have HSr := Lib.hid ((Hb.out.block S lS (by omega) (by omega)).trans HS.out)
    obtain ⟨k0, k1, k2⟩ := one_cell HCr.out
    obtain ⟨j0, j1, j2⟩ := one_cell HSr.out
    obtain ⟨m0, m1, m2⟩ := one_cell Hm.out
    have n0 := Hcu.out.at_
    have hsz := Hb.out.size
    by_cases hlt : p < s.size
    · have q : (decide ((p : Int) < (s.size : Int))) = true := by simp; omega
      go_wp2_with fail
      go_quiet (fail)
      go_wp2_with fail
      cases hf : fieldS s p with
      | none =>
        have Hf := Lib.hid (show fieldsS s 0 = none by rw [← Hr.out, fields_bad hlt hf]; rfl)
        have Hcall := Lib.hid (field_bad s p N hs (by omega) hf)
        clear hf
        refine wp_region_any (by kernel_rfl) ?_
        try (change wpAny _ _ _ _ _ _ _ (World.drew _))
        refine wpAny_ready (rs := [0, 1]) (by kernel_rfl) (by simp) ?_
        refine AllReady.cons rfl (fun K hK => ?_) ?_
        · go_simp
          refine hK _ _ ?_
          clear hK K
          refine wpAny_ready (rs := [1]) (by kernel_rfl) (by simp) ?_
          refine AllReady.cons rfl (fun K hK => ?_) AllReady.nil
          go_simp
          refine hK _ _ ?_
          clear hK K
          refine wpAny_ready (rs := [2]) (by kernel_rfl) (by simp) ?_
          refine AllReady.cons rfl (fun K hK => ?_) AllReady.nil
          go_simp
          (go_wp2_with (first | (go_at_call 26; refine (Hcall.out _ (Hcu.out.drewN _)).mono ?_; rintro e w1 ⟨ho, rfl⟩; exact ⟨rfl, (Hb.out.drewN _).trans (ho.two M), .inr ⟨Hf.out, rfl⟩⟩)))
        · refine AllReady.cons rfl (fun K hK => ?_) AllReady.nil
          go_simp
          refine hK _ _ ?_
          clear hK K
          refine wpAny_ready (rs := [0, 2]) (by kernel_rfl) (by simp) ?_
          refine AllReady.cons rfl (fun K hK => ?_) ?_
          · go_simp
            refine hK _ _ ?_
            clear hK K
            refine wpAny_ready (rs := [2]) (by kernel_rfl) (by simp) ?_
            refine AllReady.cons rfl (fun K hK => ?_) AllReady.nil
            go_simp
            (go_wp2_with (first | (go_at_call 26; refine (Hcall.out _ (Hcu.out.drewN _)).mono ?_; rintro e w1 ⟨ho, rfl⟩; exact ⟨rfl, (Hb.out.drewN _).trans (ho.two M), .inr ⟨Hf.out, rfl⟩⟩)))
          · refine AllReady.cons rfl (fun K hK => ?_) AllReady.nil
            go_simp
            (go_wp2_with (first | (go_at_call 26; refine (Hcall.out _ (Hcu.out.drewN _)).mono ?_; rintro e w1 ⟨ho, rfl⟩; exact ⟨rfl, (Hb.out.drewN _).trans (ho.two M), .inr ⟨Hf.out, rfl⟩⟩)))
      | some fn =>
        obtain ⟨⟨num, kind, u, b⟩, n⟩ := fn
        have Hcall := Lib.hid (field_ok s p N hs (by omega) hf)
        have Hf := Lib.hid hf
        clear hf
        go_region_law (first
          | (go_simp; go_at_call 26; refine (Hcall.out _ (Hcu.out.drewN _)).mono ?_; rintro e w1 ⟨ho, rfl, hcu1⟩; unfold Fd.val; have HM1 := Lib.hid ((ho.block M m2 (by omega)).trans Hm.out); obtain ⟨m0', m1', m2'⟩ := one_cell HM1.out; have Hcu1 := Lib.hid hcu1; have Ho1 := Lib.hid ho; have Own1 := Lib.hid ((Ho.out.drewN _).only ho (by omega) hsz); have z1 : wr.heap.size ≤ w1.heap.size := ho.size; clear hcu1 ho; dsimp only)
          | (refine step_append_f1 _ ⟨num, kind, u, b⟩ rfl (.tmp 10) (.tmp 13) 29 rfl i0 _ rfl Try.underlying29 hi hz0 hz1 hz2 w.heap.size v x rfl (Own1.out.alloc _) w1.heap.size rfl (heap_alloc_new w1 _) (by omega) (by simp; omega) ?_; intro v' w2 ho2 hg2; obtain ⟨A', c', rfl⟩ := ho2.form; have f2 : ∀ k, k < w.heap.size → w2.heap[k]? = w1.heap[k]? := fun k hk => (Ho.out.far hg2 hk (by simp; omega)).trans (Below.heap_alloc _ _ _ (by omega)); have HM2 := Lib.hid ((f2 M lM).trans HM1.out); obtain ⟨q0, q1, q2⟩ := one_cell HM2.out; have HO2 := Lib.hid ho2; have HG2 := Lib.hid hg2; have F2 := Lib.hid f2; clear f2 ho2 hg2))
        all_goals
          have hbd := fieldS_bd Hf.out
          have Hmore := Lib.hid (fields_more hlt Hf.out Hr.out)
          have Hcu2 := Lib.hid (show Cur w2 N s n from (F2.out N lN).trans Hcu1.out)
          have Hb2 := Lib.hid ((((Hb.out.drewN _).trans (Ho1.out.two M)).alloc _).grown HG2.out fun k hk => (Ho.out.1.lt k hk).1)
          go_wp2_with fail
          go_roundg (s.size - n)
          case measure => omega
          case rel => exact ⟨n, x ++ [⟨num, kind, u, b⟩], _, by omega, by simp; omega, Hmore, Lib.hid (Hcu2.out.far (by dsimp only; omega) _), Lib.hid (one_set HM2.out _), Lib.hid (OwnF.set_far (by simpa using HO2.out) lM _), Lib.hid (Hb2.out.snd _ _)⟩
    · have q : (decide ((p : Int) < (s.size : Int))) = false := by simp; omega
      go_wp2_with fail
      go_quiet (fail)
      go_wp2_with fail
      go_end0
      have e0 := Hr.out
      rw [fields_end hlt] at e0
      simp at e0
      exact ⟨Hb.out.drewN _, .inl ⟨x, v, e0.symm, rfl, Hm.out, Ho.out.drewN _⟩⟩
end Go.Proofs.Ytpnieegaemfffaa
