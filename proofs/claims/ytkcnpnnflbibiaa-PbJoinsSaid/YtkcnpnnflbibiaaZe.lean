/- The walks: the program's Fields, its inner function. The walks: the program's Fields. Lists of numbers in memory. The walks: the numbers of a packed text. The walks: the program's Packed. -/
import Derived.Test.YtkcnpnnflbibiaaZd
import Derived.Deep.RegionHeld3
import Derived.Deep.AppendLies
import Derived.Deep.LoopGhost
import Derived.Deep.RegionLaw
set_option linter.unusedVariables false
/- The walks: the program's Fields, its inner function. -/
namespace Go.Proofs.Ytkcnpnnflbibiaa
open Go.RowKit

/-- One field more, at a step of a region that draws. -/
theorem step_append_f1 {P : Program} (w : World) (f : Fd) {ops : Array Oper} {o : Oper} {a : Act} {K : Act → World → Prop} {Q : Exit → Act → World → Prop} {E : Prop} (hgd : o.guard = none) (s y : Operand) (t : TypeId)
    (ho : o.op = .call { callee := .builtin .append, args := #[s, y], argTypes := #[t, t] })
    (i : TypeInfo) (z : Value) (hzc : z.cells.size = 4) (ht : P.underlying t = some (.slice 24)) (hi : P.info? 24 = some i) (hz : i.zero = some z) (hsize : i.size = 4) (hby : i.bytes = 40)
    (B : Nat) (v : Value) (l : List Fd) (hs : a.eval s = v) (hown : OwnF w B v l) (g : Nat) (hx : a.eval y = .slice (some ⟨g, 0, none⟩) 1 1)
    (hg : w.heap[g]? = some (.cells #[.int .i64 f.num, .int .i64 f.kind, .int .u64 f.u, .string f.b] 24 (0, 0)))
    (hlen : (l.length + 1) * 40 ≤ 140737488355328) (hbase : B ≤ w.heap.size)
    (h : ∀ v' w', OwnF w' B v' (l ++ [f]) → w.grownBy w' v.ownBlock → K (a.put o.dst v') w') :
    if Region.wanted o (yielded ops a.tmps) = true then Oper.wp P o a w K Q else E := by
  obtain ⟨⟨c0, c1, c2, c3⟩, _⟩ := blk4 hg
  refine step_append_lies w hgd s y t ho B 24 i z 4 40 ht hi hz hsize hby hzc (by decide) v l.length (flat l) hs hown.1 ⟨g, 0, none⟩ 1 1 f.cells hx rfl ?_ ?_ (by decide) (by unfold maxLen; omega) (by omega) hbase _ rfl ?_
  · intro j u hj
    match j, hj with
    | 0, hj => simp [Fd.cells] at hj; subst hj; simpa [Addr.add] using c0
    | 1, hj => simp [Fd.cells] at hj; subst hj; simpa [Addr.add] using c1
    | 2, hj => simp [Fd.cells] at hj; subst hj; simpa [Addr.add] using c2
    | 3, hj => simp [Fd.cells] at hj; subst hj; simpa [Addr.add] using c3
    | j + 4, hj => simp [Fd.cells] at hj
  · intro u hu
    simp [Fd.cells] at hu
    rcases hu with rfl | rfl | rfl | rfl <;> rfl
  · intro g' cap w' h2 h3 _ _
    refine h _ w' ⟨?_, by simp; unfold maxLen; omega⟩ h3
    rw [flat_append, show flat [f] = f.cells by simp [flat]]
    simpa using h2
theorem Only2.alloc {b c : Nat} {x y : World} (h : Only2 b c x y) (o : Obj) : Only2 b c x (y.alloc o) :=
  h.trans ⟨rfl, rfl, rfl, by simp, fun k hk _ _ => Below.heap_alloc _ _ _ hk⟩
theorem Only2.grown {b c : Nat} {x y z : World} {r : Option Nat} (h : Only2 b c x y) (hg : y.grownBy z r) (hr : ∀ k, r = some k → x.heap.size ≤ k) : Only2 b c x z := by
  have hb := (Below.refl x.heap.size y).grown hg h.size hr
  exact ⟨hb.os.trans h.os, hb.tape.trans h.tape, hb.output.trans h.output, Nat.le_trans h.size hb.size, fun k hk h1 h2 => (hb.block k hk).trans (h.block k hk h1 h2)⟩

theorem field_ok (s : ByteArray) (p b : Nat) (hs : s.size ≤ 140737488351232) (hp : p ≤ s.size) {f : Fd} {n : Nat} (hf : fieldS s p = some (f, n)) (w : World) (hc : Cur w b s p) :
    Calls Try.prog 87 #[.pointer (some ⟨b, 0, none⟩)] w fun e w' => Only b w w' ∧ e = .returned f.val ∧ Cur w' b s n := by
  refine (field_any s p b w hs hp hc).mono ?_
  rintro e w' ⟨ho, ⟨f', n', h1, h2, h3⟩ | ⟨h1, _⟩⟩
  · rw [hf] at h1; cases h1; exact ⟨ho, h2, h3⟩
  · rw [hf] at h1; cases h1
theorem field_bad (s : ByteArray) (p b : Nat) (hs : s.size ≤ 140737488351232) (hp : p ≤ s.size) (hf : fieldS s p = none) (w : World) (hc : Cur w b s p) :
    Calls Try.prog 87 #[.pointer (some ⟨b, 0, none⟩)] w fun e w' => Only b w w' ∧ e = .panicked bad := by
  refine (field_any s p b w hs hp hc).mono ?_
  rintro e w' ⟨ho, ⟨f', n', h1, h2, h3⟩ | ⟨h1, h2⟩⟩
  · rw [hf] at h1; cases h1
  · exact ⟨ho, h2⟩

/-- The call's own list outlives what turns one block below it. -/
theorem OwnF.only {w w' : World} {B b : Nat} {v : Value} {l : List Fd} (h : OwnF w B v l) (ho : Only b w w') (hb : b < B) (_ : B ≤ w.heap.size) : OwnF w' B v l := by
  refine ⟨⟨h.1.1, ?_⟩, h.2⟩
  rcases h.1.2 with h1 | ⟨g, cap, cur, e, hB, hg, r⟩
  · exact .inl h1
  · exact .inr ⟨g, cap, cur, e, hB, (ho.block g (Array.getElem?_eq_some_iff.1 hg).1 (by omega)).trans hg, r⟩

theorem OwnF.far {a y z : World} {B k : Nat} {v : Value} {l : List Fd} (h : OwnF a B v l) (hg : y.grownBy z v.ownBlock) (hk : k < B) (hB : B ≤ y.heap.size) : z.heap[k]? = y.heap[k]? :=
  hg.block k (by omega) fun e => by have := (h.1.lt k e.symm).1; omega

theorem OwnF.set_far {w : World} {B k i : Nat} {v : Value} {l : List Fd} (h : OwnF w B v l) (hk : k < B) (u : Value) : OwnF (w.setCell ⟨k, i, none⟩ u) B v l := by
  refine ⟨⟨h.1.1, ?_⟩, h.2⟩
  rcases h.1.2 with h1 | ⟨g, cap, cur, e, hB, hg, r⟩
  · exact .inl h1
  · exact .inr ⟨g, cap, cur, e, hB, (Below.heap_setCell _ _ _ _ (by dsimp only; omega)).trans hg, r⟩

/-- What the inner function of Fields leaves. -/
def FldsPost (s : ByteArray) (N M : Nat) (w : World) (e : Ending) (w' : World) : Prop :=
  Only2 N M w w' ∧ ((∃ l v, fieldsS s 0 = some l ∧ e = .returned (.tuple #[]) ∧ w'.heap[M]? = some (.cells #[v] 29 (0, 0)) ∧ OwnF w' w.heap.size v l) ∨ (fieldsS s 0 = none ∧ e = .panicked bad))

set_option maxRecDepth 100000 in
set_option maxHeartbeats 1600000 in
theorem fields1_any (s : ByteArray) (N C S M : Nat) (w : World) (hsm : s.size ≤ 16777216) (hc : Cur w N s 0)
    (hC : w.heap[C]? = some (.cells #[.pointer (some ⟨N, 0, none⟩)] 124 (0, 0))) (hS : w.heap[S]? = some (.cells #[.string s] 9 (0, 0))) (hM : w.heap[M]? = some (.cells #[.slice none 0 0] 29 (0, 0)))
    (h1 : N < C) (h2 : S < N) (h3 : C < M) :
    Calls Try.prog 86 #[.pointer (some ⟨C, 0, none⟩), .pointer (some ⟨S, 0, none⟩), .pointer (some ⟨M, 0, none⟩)] w (FldsPost s N M w) := by
  have hs : s.size ≤ 140737488351232 := by omega
  obtain ⟨i0, hi, hz0, hz1, hz2⟩ := info_parts Try.info24
  have Hc := Lib.hid hc
  have HC := Lib.hid hC
  have HS := Lib.hid hS
  have HM := Lib.hid hM
  have lC := (one_cell hC).2.2
  have lS := (one_cell hS).2.2
  have lM := (one_cell hM).2.2
  have lN := hc.lt
  clear hC hS hM hc
  go_enter Try.func86, Try.ntmps86
  go_wp2_with fail
  go_loopg [] s.size (fun k wr => ∃ p : Nat, ∃ x : List Fd, ∃ v : Value, p + k = s.size ∧ x.length ≤ p ∧ Hid ((fieldsS s p).map (x ++ ·) = fieldsS s 0) ∧ Hid (Cur wr N s p) ∧ Hid (wr.heap[M]? = some (.cells #[v] 29 (0, 0))) ∧ Hid (OwnF wr w.heap.size v x) ∧ Hid (Only2 N M w wr))
  case atStart => exact ⟨0, [], _, by omega, by simp, Lib.hid (by simp), Hc, HM, Lib.hid (ownF_nil _ _), Lib.hid (Only2.refl _ _ _)⟩
  case round =>
    obtain ⟨p, x, v, hpk, hxl, Hr, Hcu, Hm, Ho, Hb⟩ := hrel
    have HCr := Lib.hid ((Hb.out.block C lC (by omega) (by omega)).trans HC.out)
    have HSr := Lib.hid ((Hb.out.block S lS (by omega) (by omega)).trans HS.out)
    obtain ⟨k0, k1, k2⟩ := one_cell HCr.out
    obtain ⟨j0, j1, j2⟩ := one_cell HSr.out
    obtain ⟨m0, m1, m2⟩ := one_cell Hm.out
    have n0 := Hcu.out.at_
    have hsz := Hb.out.size
    by_cases hlt : p < s.size
    · have q : (decide ((p : Int) < (s.size : Int))) = true := by simp; omega
      go_wp2_with fail
      go_quiet (fail)
      go_wp2_with fail
      cases hf : fieldS s p with
      | none =>
        have Hf := Lib.hid (show fieldsS s 0 = none by rw [← Hr.out, fields_bad hlt hf]; rfl)
        have Hcall := Lib.hid (field_bad s p N hs (by omega) hf)
        clear hf
        refine wp_region_any (by kernel_rfl) ?_
        try (change wpAny _ _ _ _ _ _ _ (World.drew _))
        refine wpAny_ready (rs := [0, 1]) (by kernel_rfl) (by simp) ?_
        refine AllReady.cons rfl (fun K hK => ?_) ?_
        · go_simp
          refine hK _ _ ?_
          clear hK K
          refine wpAny_ready (rs := [1]) (by kernel_rfl) (by simp) ?_
          refine AllReady.cons rfl (fun K hK => ?_) AllReady.nil
          go_simp
          refine hK _ _ ?_
          clear hK K
          refine wpAny_ready (rs := [2]) (by kernel_rfl) (by simp) ?_
          refine AllReady.cons rfl (fun K hK => ?_) AllReady.nil
          go_simp
          (go_wp2_with (first | (go_at_call 87; refine (Hcall.out _ (Hcu.out.drewN _)).mono ?_; rintro e w1 ⟨ho, rfl⟩; exact ⟨rfl, (Hb.out.drewN _).trans (ho.two M), .inr ⟨Hf.out, rfl⟩⟩)))
        · refine AllReady.cons rfl (fun K hK => ?_) AllReady.nil
          go_simp
          refine hK _ _ ?_
          clear hK K
          refine wpAny_ready (rs := [0, 2]) (by kernel_rfl) (by simp) ?_
          refine AllReady.cons rfl (fun K hK => ?_) ?_
          · go_simp
            refine hK _ _ ?_
            clear hK K
            refine wpAny_ready (rs := [2]) (by kernel_rfl) (by simp) ?_
            refine AllReady.cons rfl (fun K hK => ?_) AllReady.nil
            go_simp
            (go_wp2_with (first | (go_at_call 87; refine (Hcall.out _ (Hcu.out.drewN _)).mono ?_; rintro e w1 ⟨ho, rfl⟩; exact ⟨rfl, (Hb.out.drewN _).trans (ho.two M), .inr ⟨Hf.out, rfl⟩⟩)))
          · refine AllReady.cons rfl (fun K hK => ?_) AllReady.nil
            go_simp
            (go_wp2_with (first | (go_at_call 87; refine (Hcall.out _ (Hcu.out.drewN _)).mono ?_; rintro e w1 ⟨ho, rfl⟩; exact ⟨rfl, (Hb.out.drewN _).trans (ho.two M), .inr ⟨Hf.out, rfl⟩⟩)))
      | some fn =>
        obtain ⟨⟨num, kind, u, b⟩, n⟩ := fn
        have Hcall := Lib.hid (field_ok s p N hs (by omega) hf)
        have Hf := Lib.hid hf
        clear hf
        go_region_law (first
          | (go_simp; go_at_call 87; refine (Hcall.out _ (Hcu.out.drewN _)).mono ?_; rintro e w1 ⟨ho, rfl, hcu1⟩; unfold Fd.val; have HM1 := Lib.hid ((ho.block M m2 (by omega)).trans Hm.out); obtain ⟨m0', m1', m2'⟩ := one_cell HM1.out; have Hcu1 := Lib.hid hcu1; have Ho1 := Lib.hid ho; have Own1 := Lib.hid ((Ho.out.drewN _).only ho (by omega) hsz); have z1 : wr.heap.size ≤ w1.heap.size := ho.size; clear hcu1 ho; dsimp only)
          | (refine step_append_f1 _ ⟨num, kind, u, b⟩ rfl (.tmp 10) (.tmp 13) 29 rfl i0 _ rfl Try.underlying29 hi hz0 hz1 hz2 w.heap.size v x rfl (Own1.out.alloc _) w1.heap.size rfl (heap_alloc_new w1 _) (by omega) (by simp; omega) ?_; intro v' w2 ho2 hg2; obtain ⟨A', c', rfl⟩ := ho2.form; have f2 : ∀ k, k < w.heap.size → w2.heap[k]? = w1.heap[k]? := fun k hk => (Ho.out.far hg2 hk (by simp; omega)).trans (Below.heap_alloc _ _ _ (by omega)); have HM2 := Lib.hid ((f2 M lM).trans HM1.out); obtain ⟨q0, q1, q2⟩ := one_cell HM2.out; have HO2 := Lib.hid ho2; have HG2 := Lib.hid hg2; have F2 := Lib.hid f2; clear f2 ho2 hg2))
        all_goals
          have hbd := fieldS_bd Hf.out
          have Hmore := Lib.hid (fields_more hlt Hf.out Hr.out)
          have Hcu2 := Lib.hid (show Cur w2 N s n from (F2.out N lN).trans Hcu1.out)
          have Hb2 := Lib.hid ((((Hb.out.drewN _).trans (Ho1.out.two M)).alloc _).grown HG2.out fun k hk => (Ho.out.1.lt k hk).1)
          go_wp2_with fail
          go_roundg (s.size - n)
          case measure => omega
          case rel => exact ⟨n, x ++ [⟨num, kind, u, b⟩], _, by omega, by simp; omega, Hmore, Lib.hid (Hcu2.out.far (by dsimp only; omega) _), Lib.hid (one_set HM2.out _), Lib.hid (OwnF.set_far (by simpa using HO2.out) lM _), Lib.hid (Hb2.out.snd _ _)⟩
    · have q : (decide ((p : Int) < (s.size : Int))) = false := by simp; omega
      go_wp2_with fail
      go_quiet (fail)
      go_wp2_with fail
      go_end0
      have e0 := Hr.out
      rw [fields_end hlt] at e0
      simp at e0
      exact ⟨Hb.out.drewN _, .inl ⟨x, v, e0.symm, rfl, Hm.out, Ho.out.drewN _⟩⟩
end Go.Proofs.Ytkcnpnnflbibiaa

/- The walks: the program's Fields. -/
namespace Go.Proofs.Ytkcnpnnflbibiaa
open Go.RowKit

theorem three_blocks (w : World) (a b c : Obj) : (((w.alloc a).alloc b).alloc c).heap[w.heap.size]? = some a ∧ (((w.alloc a).alloc b).alloc c).heap[w.heap.size + 1]? = some b ∧ (((w.alloc a).alloc b).alloc c).heap[w.heap.size + 1 + 1]? = some c ∧ (((w.alloc a).alloc b).alloc c).heap.size = w.heap.size + 3 := by
  have e1 : (w.alloc a).heap.size = w.heap.size + 1 := by simp
  have e2 : ((w.alloc a).alloc b).heap.size = w.heap.size + 1 + 1 := by simp
  have h1 := heap_alloc_new (w.alloc a) b
  have h2 := heap_alloc_new ((w.alloc a).alloc b) c
  rw [e1] at h1
  rw [e2] at h2
  exact ⟨(Below.heap_alloc _ c _ (by omega)).trans ((Below.heap_alloc _ b _ (by omega)).trans (heap_alloc_new w a)), (Below.heap_alloc _ c _ (by omega)).trans h1, h2, by simp⟩
theorem below_drewN {B : Nat} {a w : World} (h : Below B a w) (q : Nat) : Below B a (w.drewN q) := ⟨h.os, h.tape, h.output, h.size, h.block⟩
theorem four_blocks (w : World) (a b c d : Obj) :
    ((((w.alloc a).alloc b).alloc c).alloc d).heap.size = w.heap.size + 4 ∧ ((((w.alloc a).alloc b).alloc c).alloc d).heap[w.heap.size]? = some a ∧ ((((w.alloc a).alloc b).alloc c).alloc d).heap[w.heap.size + 1]? = some b ∧
      ((((w.alloc a).alloc b).alloc c).alloc d).heap[w.heap.size + 1 + 1]? = some c ∧ ((((w.alloc a).alloc b).alloc c).alloc d).heap[w.heap.size + 1 + 1 + 1]? = some d := by
  obtain ⟨k1, k2, k3, k0⟩ := three_blocks w a b c
  have hd := heap_alloc_new (((w.alloc a).alloc b).alloc c) d
  refine ⟨by simp, (Below.heap_alloc _ _ _ (by omega)).trans k1, (Below.heap_alloc _ _ _ (by omega)).trans k2, (Below.heap_alloc _ _ _ (by omega)).trans k3, ?_⟩
  rw [k0] at hd
  exact hd

set_option maxRecDepth 100000 in
set_option maxHeartbeats 1600000 in
theorem pfields_any (s : ByteArray) (w : World) (hs : s.size ≤ 140737488351232) (l : List Fd) (err : Int) (h : FdsIs s l err) :
    Calls Try.prog 71 #[.string s] w (LstF w l err) := by
  by_cases hbig : 16777216 < s.size
  · have e : l = [] ∧ err = 6 := by
      rcases h with ⟨_, h⟩ | ⟨h, _⟩ | ⟨h, _⟩
      · exact h
      · omega
      · omega
    obtain ⟨rfl, rfl⟩ := e
    clear h
    go_enter Try.func71, Try.ntmps71
    go_wp2
    go_ret2
    exact lstF_ret (ownF_nil _ _) rfl ((Below.refl _ _).alloc (Nat.le_refl _) _) rfl rfl
  · have H := Lib.hid h
    clear h
    go_enter Try.func71, Try.ntmps71
    go_wp2_with fail
    obtain ⟨k0, kS, kN, kC, kM⟩ := four_blocks w (.cells #[.string s] 9) (.cells #[.string s, .int .i64 0] 126) (.cells #[.pointer (some ⟨w.heap.size + 1, 0, none⟩)] 124) (.cells #[.slice none 0 0] 29)
    generalize hW : (((w.alloc (.cells #[.string s] 9)).alloc (.cells #[.string s, .int .i64 0] 126)).alloc (.cells #[.pointer (some ⟨w.heap.size + 1, 0, none⟩)] 124)).alloc (.cells #[.slice none 0 0] 29) = W at k0 kS kN kC kM ⊢
    have hbW : Below w.heap.size w W := by rw [← hW]; exact ((((Below.refl _ _).alloc (Nat.le_refl _) _).alloc (by simp) _).alloc (by simp; omega) _).alloc (by simp; omega) _
    clear hW
    have T1 := fields1_any s (w.heap.size + 1) (w.heap.size + 1 + 1) w.heap.size (w.heap.size + 1 + 1 + 1) (W.alloc (.cells #[.int .i64 0] 26)) (by omega) ((Below.heap_alloc _ _ _ (by omega)).trans kN) ((Below.heap_alloc _ _ _ (by omega)).trans kC) ((Below.heap_alloc _ _ _ (by omega)).trans kS) ((Below.heap_alloc _ _ _ (by omega)).trans kM) (by omega) (by omega) (by omega)
    refine (careful_86 _ _ _ W _ T1 ?_).mono ?_
    · rintro e w1 ⟨ho, hcase⟩
      refine ⟨?_, (ho.block _ (by simp) (by omega) (by omega)).trans (heap_alloc_new W _)⟩
      rcases hcase with ⟨_, _, _, rfl, _⟩ | ⟨_, rfl⟩
      · exact .inl rfl
      · exact .inr rfl
    rintro e w2 ⟨e1, w1, ⟨ho, hcase⟩, hend⟩
    have s1 : w.heap.size + 5 ≤ w1.heap.size := by have := ho.size; simp at this; omega
    have Hbel := Lib.hid (hbW.trans (((Below.refl _ _).alloc (by omega) _).trans (ho.below (by omega) (by omega) (by simp; omega))))
    have z1 : W.heap.size ≤ w.heap.size + 4 := by omega
    have z2 : w.heap.size + 4 ≤ W.heap.size := by omega
    clear ho hbW T1 k0 kS kN kC kM
    rcases hend with ⟨rfl, rfl, rfl⟩ | ⟨rfl, rfl, rfl⟩
    · rcases hcase with ⟨l', v, hl, _, hv, hown⟩ | ⟨_, h⟩
      · have e3 : l' = l ∧ 0 = err := by
          rcases H.out with ⟨h, _⟩ | ⟨_, h2, _⟩ | ⟨_, h2, rfl⟩
          · omega
          · rw [hl] at h2; cases h2
          · rw [hl] at h2; cases h2; exact ⟨rfl, rfl⟩
        have E3 := Lib.hid e3
        have c0 : (w1.setCell ⟨W.heap.size, 0, none⟩ (.int .i64 0)).cell? ⟨w.heap.size + 1 + 1 + 1, 0, none⟩ = some v := (World.cell?_setCell_other _ _ _ _ (by first | (simp; done) | (simp; omega))).trans (one_cell hv).1
        have Hown := Lib.hid ((hown.lower (B' := w.heap.size) (by simp; omega)))
        have Hown2 := Lib.hid (OwnF.set_far (k := W.heap.size) (i := 0) hown (by simp) (.int .i64 0))
        obtain ⟨A, c, rfl⟩ := hown.form
        clear hl hv hown e3
        go_wp2
        go_ret2
        exact lstF_ret (Hown2.out.lower (by simp; omega)) rfl (Hbel.out.setCell (by dsimp only; omega) _) E3.out.1 E3.out.2
      · cases h
    · rcases hcase with ⟨_, _, _, h, _⟩ | ⟨hn, _⟩
      · cases h
      · have e3 : ([] : List Fd) = l ∧ 3 = err := by
          rcases H.out with ⟨h, _⟩ | ⟨_, _, rfl, rfl⟩ | ⟨_, h2, _⟩
          · omega
          · exact ⟨rfl, rfl⟩
          · rw [hn] at h2; cases h2
        have E3 := Lib.hid e3
        clear hn e3
        go_wp2
        go_ret2
        exact lstF_ret (ownF_nil _ _) rfl ((Hbel.out.alloc (by omega) _).setCell (by dsimp only; omega) _) E3.out.1 E3.out.2
end Go.Proofs.Ytkcnpnnflbibiaa

/- Lists of numbers in memory. -/
namespace Go.Proofs.Ytkcnpnnflbibiaa
open Go.RowKit

theorem Try.info22 : (Try.prog.info? 22).map (fun i => (i.zero, i.size, i.bytes)) = some (some (.int .u64 0), 1, 8) := by kernel_rfl
def numVals (l : List Int) : List Value := l.map (Value.int .u64)
theorem numVals_get (l : List Int) (j : Nat) (x : Int) (h : l[j]? = some x) : (numVals l)[j]? = some (.int .u64 x) := by simp [numVals, h]
/-- The slice value '.slice A n c' reads as the numbers l in the world w, below block B. -/
structure Nums (w : World) (B : Nat) (A : Option Addr) (n : Nat) (l : List Int) : Prop where
  len : l.length = n
  small : n ≤ maxLen
  at_ : 0 < n → ∃ b off, A = some ⟨b, off, none⟩ ∧ b < B ∧ ∀ j x, l[j]? = some x → w.cell? ⟨b, off + j, none⟩ = some (.int .u64 x)
theorem Nums.keep {w w' : World} {B B' n : Nat} {A : Option Addr} {l : List Int} (h : Nums w B A n l) (hB : B ≤ B') (hk : ∀ p : Addr, p.block < B → w'.cell? p = w.cell? p) : Nums w' B' A n l :=
  ⟨h.len, h.small, fun hn => by
    obtain ⟨b, off, e, hb, hc⟩ := h.at_ hn
    exact ⟨b, off, e, by omega, fun j x hj => (hk _ hb).trans (hc j x hj)⟩⟩
theorem Nums.below {w w' : World} {B B' n : Nat} {A : Option Addr} {l : List Int} (h : Nums w B A n l) (hb : Below B w w') (hB : B ≤ B') : Nums w' B' A n l := h.keep hB fun _ hp => hb.cell hp
/-- The call's own list of numbers. -/
def OwnU (w : World) (B : Nat) (v : Value) (l : List Int) : Prop := w.ownsRow B 22 1 v l.length (numVals l) ∧ l.length ≤ maxLen
theorem ownU_nil (w : World) (B : Nat) : OwnU w B (.slice none 0 0) [] := ⟨World.ownsRow_nil _ _ _ _, Nat.zero_le _⟩
theorem OwnU.form {w : World} {B : Nat} {v : Value} {l : List Int} (h : OwnU w B v l) : ∃ A c, v = .slice A l.length c := by
  rcases h.1.2 with ⟨rfl, hn⟩ | ⟨g, cap, cur, rfl, _⟩
  · exact ⟨none, 0, by rw [hn]⟩
  · exact ⟨_, _, rfl⟩
theorem OwnU.below {w w' : World} {B : Nat} {v : Value} {l : List Int} (h : OwnU w B v l) (hb : Below w.heap.size w w') : OwnU w' B v l := by
  refine ⟨⟨h.1.1, ?_⟩, h.2⟩
  rcases h.1.2 with h1 | ⟨g, cap, cur, e, hB, hg, r⟩
  · exact .inl h1
  · exact .inr ⟨g, cap, cur, e, hB, (hb.block g (Array.getElem?_eq_some_iff.1 hg).1).trans hg, r⟩
theorem OwnU.lower {w : World} {B B' : Nat} {v : Value} {l : List Int} (h : OwnU w B v l) (hB : B' ≤ B) : OwnU w B' v l := by
  refine ⟨⟨h.1.1, ?_⟩, h.2⟩
  rcases h.1.2 with h1 | ⟨g, cap, cur, e, hb, r⟩
  · exact .inl h1
  · exact .inr ⟨g, cap, cur, e, by omega, r⟩

theorem OwnU.alloc {w : World} {B : Nat} {v : Value} {l : List Int} (h : OwnU w B v l) (o : Obj) : OwnU (w.alloc o) B v l := h.below ((Below.refl _ _).alloc (Nat.le_refl _) o)
theorem OwnU.drewN {w : World} {B : Nat} {v : Value} {l : List Int} (h : OwnU w B v l) (q : Nat) : OwnU (w.drewN q) B v l := ⟨h.1, h.2⟩
theorem OwnU.nums {w : World} {B c n : Nat} {A : Option Addr} {l : List Int} (h : OwnU w B (.slice A n c) l) (hn : n = l.length) : Nums w w.heap.size A n l := by
  subst hn
  refine ⟨rfl, h.2, fun hn => ?_⟩
  rcases h.1.2 with ⟨_, h0⟩ | ⟨g, cap, cur, e, _, hg, _⟩
  · omega
  · simp only [Value.slice.injEq] at e
    obtain ⟨rfl, _, rfl⟩ := e
    refine ⟨g, 0, rfl, (Array.getElem?_eq_some_iff.1 hg).1, fun j x hj => ?_⟩
    have hlt : j < l.length := by
      rcases Nat.lt_or_ge j l.length with h | h
      · exact h
      · rw [List.getElem?_eq_none h] at hj; cases hj
    rw [Nat.zero_add, h.1.cellAt j (by omega), numVals_get l j x hj]
theorem blk1 {w : World} {g : Nat} {x : Int} (hg : w.heap[g]? = some (.cells #[.int .u64 x] 22 (0, 0))) : ∀ j u, ([Value.int .u64 x])[j]? = some u → w.cell? ((⟨g, 0, none⟩ : Addr).add j) = some u := by
  intro j u hj
  match j, hj with
  | 0, hj => simp at hj; subst hj; simpa [Addr.add] using (one_cell hg).1
  | j + 1, hj => simp at hj
/-- One number more: the source is a block of its own. -/
theorem wpList_append_u1 {P : Program} (w : World) (x : Int) {ops : Array Oper} {rest : List Oper} {o : Oper} {a : Act} {Q : Exit → Act → World → Prop} (hgd : o.guard = none) (s y : Operand) (t : TypeId)
    (ho : o.op = .call { callee := .builtin .append, args := #[s, y], argTypes := #[t, t] })
    (i : TypeInfo) (z : Value) (hzc : z.cells.size = 1) (ht : P.underlying t = some (.slice 22)) (hi : P.info? 22 = some i) (hz : i.zero = some z) (hsize : i.size = 1) (hby : i.bytes = 8)
    (B : Nat) (v : Value) (l : List Int) (hs : a.eval s = v) (hown : OwnU w B v l) (g : Nat) (hx : a.eval y = .slice (some ⟨g, 0, none⟩) 1 1)
    (hg : w.heap[g]? = some (.cells #[.int .u64 x] 22 (0, 0)))
    (hlen : (l.length + 1) * 8 ≤ 140737488355328) (hbase : B ≤ w.heap.size)
    (h : ∀ v' w', OwnU w' B v' (l ++ [x]) → w.grownBy w' v.ownBlock → wpList P ops Q rest (a.put o.dst v') w') : wpList P ops Q (o :: rest) a w := by
  refine wpList_append_own _ hgd s y t ho B 22 i z 1 8 ht hi hz hsize hby hzc (by decide) v l.length (numVals l) hs hown.1 ⟨g, 0, none⟩ 1 1 [.int .u64 x] hx rfl (blk1 hg) ?_ (by unfold maxLen; omega) (by omega) hbase ?_
  · intro u hu
    simp at hu
    subst hu; rfl
  · intro v' w' h2 h3 _
    refine h v' w' ⟨?_, by simp; unfold maxLen; omega⟩ h3
    rw [show numVals (l ++ [x]) = numVals l ++ [.int .u64 x] by simp [numVals]]
    simpa using h2
/-- One number more, at a step of a region that draws. -/
theorem step_append_u1 {P : Program} (w : World) (x : Int) {ops : Array Oper} {o : Oper} {a : Act} {K : Act → World → Prop} {Q : Exit → Act → World → Prop} {E : Prop} (hgd : o.guard = none) (s y : Operand) (t : TypeId)
    (ho : o.op = .call { callee := .builtin .append, args := #[s, y], argTypes := #[t, t] })
    (i : TypeInfo) (z : Value) (hzc : z.cells.size = 1) (ht : P.underlying t = some (.slice 22)) (hi : P.info? 22 = some i) (hz : i.zero = some z) (hsize : i.size = 1) (hby : i.bytes = 8)
    (B : Nat) (v : Value) (l : List Int) (hs : a.eval s = v) (hown : OwnU w B v l) (g : Nat) (hx : a.eval y = .slice (some ⟨g, 0, none⟩) 1 1)
    (hg : w.heap[g]? = some (.cells #[.int .u64 x] 22 (0, 0)))
    (hlen : (l.length + 1) * 8 ≤ 140737488355328) (hbase : B ≤ w.heap.size)
    (h : ∀ v' w', OwnU w' B v' (l ++ [x]) → w.grownBy w' v.ownBlock → K (a.put o.dst v') w') :
    if Region.wanted o (yielded ops a.tmps) = true then Oper.wp P o a w K Q else E := by
  refine step_append_lies w hgd s y t ho B 22 i z 1 8 ht hi hz hsize hby hzc (by decide) v l.length (numVals l) hs hown.1 ⟨g, 0, none⟩ 1 1 [.int .u64 x] hx rfl (blk1 hg) ?_ (by decide) (by unfold maxLen; omega) (by omega) hbase _ rfl ?_
  · intro u hu
    simp at hu
    subst hu; rfl
  · intro g' cap w' h2 h3 _ _
    refine h _ w' ⟨?_, by simp; unfold maxLen; omega⟩ h3
    rw [show numVals (l ++ [x]) = numVals l ++ [.int .u64 x] by simp [numVals]]
    simpa using h2
theorem OwnU.grown {a w w' : World} {B : Nat} {v : Value} {l : List Int} (h : OwnU w B v l) (hb : Below B a w) (hg : w.grownBy w' v.ownBlock) (hB : B ≤ w.heap.size) : Below B a w' :=
  hb.grown hg hB fun k hk => (h.1.lt k hk).1
/-- What a call leaves that hands back a list of numbers and an error. -/
def LstU (w : World) (l : List Int) (err : Int) (e : Ending) (w' : World) : Prop :=
  ∃ A n c, e = .returned (.tuple #[.slice A n c, .int .i64 err]) ∧ n = l.length ∧ OwnU w' w.heap.size (.slice A n c) l ∧ Below w.heap.size w w'
/-- The call's own list outlives what turns one block below it. -/
theorem OwnU.only {w w' : World} {B b : Nat} {v : Value} {l : List Int} (h : OwnU w B v l) (ho : Only b w w') (hb : b < B) (_ : B ≤ w.heap.size) : OwnU w' B v l := by
  refine ⟨⟨h.1.1, ?_⟩, h.2⟩
  rcases h.1.2 with h1 | ⟨g, cap, cur, e, hB, hg, r⟩
  · exact .inl h1
  · exact .inr ⟨g, cap, cur, e, hB, (ho.block g (Array.getElem?_eq_some_iff.1 hg).1 (by omega)).trans hg, r⟩

theorem OwnU.far {a y z : World} {B k : Nat} {v : Value} {l : List Int} (h : OwnU a B v l) (hg : y.grownBy z v.ownBlock) (hk : k < B) (hB : B ≤ y.heap.size) : z.heap[k]? = y.heap[k]? :=
  hg.block k (by omega) fun e => by have := (h.1.lt k e.symm).1; omega

theorem OwnU.set_far {w : World} {B k i : Nat} {v : Value} {l : List Int} (h : OwnU w B v l) (hk : k < B) (u : Value) : OwnU (w.setCell ⟨k, i, none⟩ u) B v l := by
  refine ⟨⟨h.1.1, ?_⟩, h.2⟩
  rcases h.1.2 with h1 | ⟨g, cap, cur, e, hB, hg, r⟩
  · exact .inl h1
  · exact .inr ⟨g, cap, cur, e, hB, (Below.heap_setCell _ _ _ _ (by dsimp only; omega)).trans hg, r⟩

theorem lstU_ret {x l : List Int} {err e2 : Int} {w w' : World} {A : Option Addr} {n c : Nat} (ho : OwnU w' w.heap.size (.slice A n c) x) (hn : n = x.length) (hb : Below w.heap.size w w') (h1 : x = l) (h2 : e2 = err) : LstU w l err (.returned (.tuple #[.slice A n c, .int .i64 e2])) w' := by
  subst h1 h2; exact ⟨_, _, _, rfl, hn, ho, hb⟩

end Go.Proofs.Ytkcnpnnflbibiaa

/- The walks: the numbers of a packed text. -/
namespace Go.Proofs.Ytkcnpnnflbibiaa
open Go.RowKit

def pgo (s : ByteArray) : Nat → Nat → Option (List Int)
  | 0, p => if p < s.size then none else some []
  | f + 1, p => if p < s.size then (tk s p).bind fun r => (pgo s f r.2).map (r.1 :: ·) else some []
/-- The numbers from a place on. -/
def packS (s : ByteArray) (p : Nat) : Option (List Int) := pgo s (s.size - p) p
theorem pgo_fuel (s : ByteArray) : ∀ f p, s.size - p ≤ f → pgo s f p = packS s p := by
  intro f
  induction f using Nat.strongRecOn with
  | ind f ih =>
    intro p hp
    unfold packS
    by_cases hlt : p < s.size
    · obtain ⟨k, hk⟩ : ∃ k, s.size - p = k + 1 := ⟨s.size - p - 1, by omega⟩
      obtain ⟨g, rfl⟩ : ∃ g, f = g + 1 := ⟨f - 1, by omega⟩
      rw [hk]
      simp only [pgo, if_pos hlt]
      cases e : tk s p with
      | none => rfl
      | some r =>
        have hb := tk_bd (show tk s p = some (r.1, r.2) by rw [e])
        simp only [Option.bind_some]
        rw [ih g (by omega) r.2 (by omega)]
        by_cases hkf : k < g + 1
        · rw [ih k hkf r.2 (by omega)]
        · rw [show k = g by omega, ih g (by omega) r.2 (by omega)]
    · have e : s.size - p = 0 := by omega
      rw [e]
      cases f with
      | zero => rfl
      | succ f => simp [pgo, hlt]
theorem pack_end {s : ByteArray} {p : Nat} (h : ¬ p < s.size) : packS s p = some [] := by
  unfold packS
  rw [show s.size - p = 0 by omega]
  simp [pgo, h]
theorem pack_bad {s : ByteArray} {p : Nat} (h : p < s.size) (hf : tk s p = none) : packS s p = none := by
  unfold packS
  rw [show s.size - p = (s.size - p - 1) + 1 by omega]
  simp [pgo, h, hf]
theorem pack_step {s : ByteArray} {p : Nat} (h : p < s.size) {f : Int} {n : Nat} (hf : tk s p = some (f, n)) : packS s p = (packS s n).map (f :: ·) := by
  conv => lhs; unfold packS
  rw [show s.size - p = (s.size - p - 1) + 1 by omega]
  simp only [pgo, if_pos h, hf, Option.bind_some]
  have := tk_bd hf
  rw [pgo_fuel s (s.size - p - 1) n (by omega)]
theorem pack_more {s : ByteArray} {p : Nat} {l : List Int} (h : p < s.size) {f : Int} {n : Nat} (hf : tk s p = some (f, n)) (hr : (packS s p).map (l ++ ·) = packS s 0) : (packS s n).map ((l ++ [f]) ++ ·) = packS s 0 := by
  rw [← hr, pack_step h hf, Option.map_map]
  congr 1
  funext x
  simp
/-- What the packed numbers of any bytes are: two ways. -/
def PkIs (s : ByteArray) (l : List Int) (err : Int) : Prop := (packS s 0 = none ∧ l = [] ∧ err = 3) ∨ (packS s 0 = some l ∧ err = 0)
theorem pkIs_any (s : ByteArray) : ∃ l err, PkIs s l err := by
  cases e : packS s 0 with
  | none => exact ⟨_, _, .inl ⟨e, rfl, rfl⟩⟩
  | some l => exact ⟨_, _, .inr ⟨e, rfl⟩⟩
theorem take_ok (s : ByteArray) (p : Nat) (w : World) (hs : s.size ≤ 140737488351232) (hp : p ≤ s.size) {u : Int} {n : Nat} (h : tk s p = some (u, n)) :
    Calls Try.prog 57 #[.string s, .int .i64 p] w fun e w' => e = .returned (.tuple #[.int .u64 u, .int .i64 (n : Int), .bool true]) ∧ w = w' := by
  refine (take_any s p w hs hp).mono ?_
  rintro e w' ⟨⟨u', n', h1, h2⟩ | ⟨h1, h2⟩, h3⟩
  · rw [h] at h1; cases h1; exact ⟨h2, h3⟩
  · rw [h] at h1; cases h1
theorem take_no (s : ByteArray) (p : Nat) (w : World) (hs : s.size ≤ 140737488351232) (hp : p ≤ s.size) (h : tk s p = none) :
    Calls Try.prog 57 #[.string s, .int .i64 p] w fun e w' => e = .returned (.tuple #[.int .u64 0, .int .i64 0, .bool false]) ∧ w = w' := by
  refine (take_any s p w hs hp).mono ?_
  rintro e w' ⟨⟨u', n', h1, h2⟩ | ⟨h1, h2⟩, h3⟩
  · rw [h] at h1; cases h1
  · exact ⟨h2, h3⟩

end Go.Proofs.Ytkcnpnnflbibiaa

/- The walks: the program's Packed. -/
namespace Go.Proofs.Ytkcnpnnflbibiaa
open Go.RowKit

theorem varint_ok (s : ByteArray) (p b : Nat) (hs : s.size ≤ 140737488351232) (hp : p ≤ s.size) {u : Int} {n : Nat} (hf : tk s p = some (u, n)) (w : World) (hc : Cur w b s p) :
    Calls Try.prog 94 #[.pointer (some ⟨b, 0, none⟩)] w fun e w' => Only b w w' ∧ e = .returned (.int .u64 u) ∧ Cur w' b s n := by
  refine (varint_any s p b w hs hp hc).mono ?_
  rintro e w' ⟨ho, ⟨f', n', h1, h2, h3⟩ | ⟨h1, _⟩⟩
  · rw [hf] at h1; cases h1; exact ⟨ho, h2, h3⟩
  · rw [hf] at h1; cases h1
theorem varint_bad (s : ByteArray) (p b : Nat) (hs : s.size ≤ 140737488351232) (hp : p ≤ s.size) (hf : tk s p = none) (w : World) (hc : Cur w b s p) :
    Calls Try.prog 94 #[.pointer (some ⟨b, 0, none⟩)] w fun e w' => Only b w w' ∧ e = .panicked bad := by
  refine (varint_any s p b w hs hp hc).mono ?_
  rintro e w' ⟨ho, ⟨f', n', h1, h2, h3⟩ | ⟨h1, h2⟩⟩
  · rw [hf] at h1; cases h1
  · exact ⟨ho, h2⟩

/-- What the inner function of Packed leaves. -/
def PackPost (s : ByteArray) (N M : Nat) (w : World) (e : Ending) (w' : World) : Prop :=
  Only2 N M w w' ∧ ((∃ l v, packS s 0 = some l ∧ e = .returned (.tuple #[]) ∧ w'.heap[M]? = some (.cells #[v] 130 (0, 0)) ∧ OwnU w' w.heap.size v l) ∨ (packS s 0 = none ∧ e = .panicked bad))

set_option maxRecDepth 100000 in
set_option maxHeartbeats 1600000 in
theorem packed1_any (s : ByteArray) (N C S M : Nat) (w : World) (hsm : s.size ≤ 16777216) (hc : Cur w N s 0)
    (hC : w.heap[C]? = some (.cells #[.pointer (some ⟨N, 0, none⟩)] 124 (0, 0))) (hS : w.heap[S]? = some (.cells #[.string s] 9 (0, 0))) (hM : w.heap[M]? = some (.cells #[.slice none 0 0] 130 (0, 0)))
    (h1 : N < C) (h2 : S < N) (h3 : C < M) :
    Calls Try.prog 97 #[.pointer (some ⟨C, 0, none⟩), .pointer (some ⟨S, 0, none⟩), .pointer (some ⟨M, 0, none⟩)] w (PackPost s N M w) := by
  have hs : s.size ≤ 140737488351232 := by omega
  obtain ⟨i0, hi, hz0, hz1, hz2⟩ := info_parts Try.info22
  have Hc := Lib.hid hc
  have HC := Lib.hid hC
  have HS := Lib.hid hS
  have HM := Lib.hid hM
  have lC := (one_cell hC).2.2
  have lS := (one_cell hS).2.2
  have lM := (one_cell hM).2.2
  have lN := hc.lt
  clear hC hS hM hc
  go_enter Try.func97, Try.ntmps97
  go_wp2_with fail
  go_loopg [] s.size (fun k wr => ∃ p : Nat, ∃ x : List Int, ∃ v : Value, p + k = s.size ∧ x.length ≤ p ∧ Hid ((packS s p).map (x ++ ·) = packS s 0) ∧ Hid (Cur wr N s p) ∧ Hid (wr.heap[M]? = some (.cells #[v] 130 (0, 0))) ∧ Hid (OwnU wr w.heap.size v x) ∧ Hid (Only2 N M w wr))
  case atStart => exact ⟨0, [], _, by omega, by simp, Lib.hid (by simp), Hc, HM, Lib.hid (ownU_nil _ _), Lib.hid (Only2.refl _ _ _)⟩
  case round =>
    obtain ⟨p, x, v, hpk, hxl, Hr, Hcu, Hm, Ho, Hb⟩ := hrel
    have HCr := Lib.hid ((Hb.out.block C lC (by omega) (by omega)).trans HC.out)
    have HSr := Lib.hid ((Hb.out.block S lS (by omega) (by omega)).trans HS.out)
    obtain ⟨k0, k1, k2⟩ := one_cell HCr.out
    obtain ⟨j0, j1, j2⟩ := one_cell HSr.out
    obtain ⟨m0, m1, m2⟩ := one_cell Hm.out
    have n0 := Hcu.out.at_
    have hsz := Hb.out.size
    by_cases hlt : p < s.size
    · have q : (decide ((p : Int) < (s.size : Int))) = true := by simp; omega
      go_wp2_with fail
      go_quiet (fail)
      go_wp2_with fail
      cases hf : tk s p with
      | none =>
        have Hf := Lib.hid (show packS s 0 = none by rw [← Hr.out, pack_bad hlt hf]; rfl)
        have Hcall := Lib.hid (varint_bad s p N hs (by omega) hf)
        clear hf
        refine wp_region_any (by kernel_rfl) ?_
        try (change wpAny _ _ _ _ _ _ _ (World.drew _))
        refine wpAny_ready (rs := [0, 1]) (by kernel_rfl) (by simp) ?_
        refine AllReady.cons rfl (fun K hK => ?_) ?_
        · go_simp
          refine hK _ _ ?_
          clear hK K
          refine wpAny_ready (rs := [1]) (by kernel_rfl) (by simp) ?_
          refine AllReady.cons rfl (fun K hK => ?_) AllReady.nil
          go_simp
          refine hK _ _ ?_
          clear hK K
          refine wpAny_ready (rs := [2]) (by kernel_rfl) (by simp) ?_
          refine AllReady.cons rfl (fun K hK => ?_) AllReady.nil
          go_simp
          (go_wp2_with (first | (go_at_call 94; refine (Hcall.out _ (Hcu.out.drewN _)).mono ?_; rintro e w1 ⟨ho, rfl⟩; exact ⟨rfl, (Hb.out.drewN _).trans (ho.two M), .inr ⟨Hf.out, rfl⟩⟩)))
        · refine AllReady.cons rfl (fun K hK => ?_) AllReady.nil
          go_simp
          refine hK _ _ ?_
          clear hK K
          refine wpAny_ready (rs := [0, 2]) (by kernel_rfl) (by simp) ?_
          refine AllReady.cons rfl (fun K hK => ?_) ?_
          · go_simp
            refine hK _ _ ?_
            clear hK K
            refine wpAny_ready (rs := [2]) (by kernel_rfl) (by simp) ?_
            refine AllReady.cons rfl (fun K hK => ?_) AllReady.nil
            go_simp
            (go_wp2_with (first | (go_at_call 94; refine (Hcall.out _ (Hcu.out.drewN _)).mono ?_; rintro e w1 ⟨ho, rfl⟩; exact ⟨rfl, (Hb.out.drewN _).trans (ho.two M), .inr ⟨Hf.out, rfl⟩⟩)))
          · refine AllReady.cons rfl (fun K hK => ?_) AllReady.nil
            go_simp
            (go_wp2_with (first | (go_at_call 94; refine (Hcall.out _ (Hcu.out.drewN _)).mono ?_; rintro e w1 ⟨ho, rfl⟩; exact ⟨rfl, (Hb.out.drewN _).trans (ho.two M), .inr ⟨Hf.out, rfl⟩⟩)))
      | some fn =>
        obtain ⟨u, n⟩ := fn
        have Hcall := Lib.hid (varint_ok s p N hs (by omega) hf)
        have Hf := Lib.hid hf
        clear hf
        go_region_law (first
          | (go_simp; go_at_call 94; refine (Hcall.out _ (Hcu.out.drewN _)).mono ?_; rintro e w1 ⟨ho, rfl, hcu1⟩; have HM1 := Lib.hid ((ho.block M m2 (by omega)).trans Hm.out); obtain ⟨m0', m1', m2'⟩ := one_cell HM1.out; have Hcu1 := Lib.hid hcu1; have Ho1 := Lib.hid ho; have Own1 := Lib.hid ((Ho.out.drewN _).only ho (by omega) hsz); have z1 : wr.heap.size ≤ w1.heap.size := ho.size; clear hcu1 ho; dsimp only)
          | (refine step_append_u1 _ u rfl (.tmp 10) (.tmp 13) 130 rfl i0 _ rfl Try.underlying130 hi hz0 hz1 hz2 w.heap.size v x rfl (Own1.out.alloc _) w1.heap.size rfl (heap_alloc_new w1 _) (by omega) (by simp; omega) ?_; intro v' w2 ho2 hg2; obtain ⟨A', c', rfl⟩ := ho2.form; have f2 : ∀ k, k < w.heap.size → w2.heap[k]? = w1.heap[k]? := fun k hk => (Ho.out.far hg2 hk (by simp; omega)).trans (Below.heap_alloc _ _ _ (by omega)); have HM2 := Lib.hid ((f2 M lM).trans HM1.out); obtain ⟨q0, q1, q2⟩ := one_cell HM2.out; have HO2 := Lib.hid ho2; have HG2 := Lib.hid hg2; have F2 := Lib.hid f2; clear f2 ho2 hg2))
        all_goals
          have hbd := (tk_bd Hf.out).2.2
          have Hmore := Lib.hid (pack_more hlt Hf.out Hr.out)
          have Hcu2 := Lib.hid (show Cur w2 N s n from (F2.out N lN).trans Hcu1.out)
          have Hb2 := Lib.hid ((((Hb.out.drewN _).trans (Ho1.out.two M)).alloc _).grown HG2.out fun k hk => (Ho.out.1.lt k hk).1)
          go_wp2_with fail
          go_roundg (s.size - n)
          case measure => omega
          case rel => exact ⟨n, x ++ [u], _, by omega, by simp; omega, Hmore, Lib.hid (Hcu2.out.far (by dsimp only; omega) _), Lib.hid (one_set HM2.out _), Lib.hid (OwnU.set_far (by simpa using HO2.out) lM _), Lib.hid (Hb2.out.snd _ _)⟩
    · have q : (decide ((p : Int) < (s.size : Int))) = false := by simp; omega
      go_wp2_with fail
      go_quiet (fail)
      go_wp2_with fail
      go_end0
      have e0 := Hr.out
      rw [pack_end hlt] at e0
      simp at e0
      exact ⟨Hb.out.drewN _, .inl ⟨x, v, e0.symm, rfl, Hm.out, Ho.out.drewN _⟩⟩
set_option maxRecDepth 100000 in
set_option maxHeartbeats 1600000 in
theorem ppacked_any (s : ByteArray) (w : World) (hs : s.size ≤ 16777216) (l : List Int) (err : Int) (h : PkIs s l err) :
    Calls Try.prog 89 #[.string s] w (LstU w l err) := by
  have H := Lib.hid h
  clear h
  go_enter Try.func89, Try.ntmps89
  go_wp2_with fail
  obtain ⟨k0, kS, kN, kC, kM⟩ := four_blocks w (.cells #[.string s] 9) (.cells #[.string s, .int .i64 0] 126) (.cells #[.pointer (some ⟨w.heap.size + 1, 0, none⟩)] 124) (.cells #[.slice none 0 0] 130)
  generalize hW : (((w.alloc (.cells #[.string s] 9)).alloc (.cells #[.string s, .int .i64 0] 126)).alloc (.cells #[.pointer (some ⟨w.heap.size + 1, 0, none⟩)] 124)).alloc (.cells #[.slice none 0 0] 130) = W at k0 kS kN kC kM ⊢
  have hbW : Below w.heap.size w W := by rw [← hW]; exact ((((Below.refl _ _).alloc (Nat.le_refl _) _).alloc (by simp) _).alloc (by simp; omega) _).alloc (by simp; omega) _
  clear hW
  have T1 := packed1_any s (w.heap.size + 1) (w.heap.size + 1 + 1) w.heap.size (w.heap.size + 1 + 1 + 1) (W.alloc (.cells #[.int .i64 0] 26)) (by omega) ((Below.heap_alloc _ _ _ (by omega)).trans kN) ((Below.heap_alloc _ _ _ (by omega)).trans kC) ((Below.heap_alloc _ _ _ (by omega)).trans kS) ((Below.heap_alloc _ _ _ (by omega)).trans kM) (by omega) (by omega) (by omega)
  refine (careful_97 _ _ _ W _ T1 ?_).mono ?_
  · rintro e w1 ⟨ho, hcase⟩
    refine ⟨?_, (ho.block _ (by simp) (by omega) (by omega)).trans (heap_alloc_new W _)⟩
    rcases hcase with ⟨_, _, _, rfl, _⟩ | ⟨_, rfl⟩
    · exact .inl rfl
    · exact .inr rfl
  rintro e w2 ⟨e1, w1, ⟨ho, hcase⟩, hend⟩
  have s1 : w.heap.size + 5 ≤ w1.heap.size := by have := ho.size; simp at this; omega
  have Hbel := Lib.hid (hbW.trans (((Below.refl _ _).alloc (by omega) _).trans (ho.below (by omega) (by omega) (by simp; omega))))
  have z1 : W.heap.size ≤ w.heap.size + 4 := by omega
  have z2 : w.heap.size + 4 ≤ W.heap.size := by omega
  clear ho hbW T1 k0 kS kN kC kM
  rcases hend with ⟨rfl, rfl, rfl⟩ | ⟨rfl, rfl, rfl⟩
  · rcases hcase with ⟨l', v, hl, _, hv, hown⟩ | ⟨_, h⟩
    · have e3 : l' = l ∧ 0 = err := by
        rcases H.out with ⟨h2, _⟩ | ⟨h2, rfl⟩
        · rw [hl] at h2; cases h2
        · rw [hl] at h2; cases h2; exact ⟨rfl, rfl⟩
      have E3 := Lib.hid e3
      have c0 : (w1.setCell ⟨W.heap.size, 0, none⟩ (.int .i64 0)).cell? ⟨w.heap.size + 1 + 1 + 1, 0, none⟩ = some v := (World.cell?_setCell_other _ _ _ _ (by first | (simp; done) | (simp; omega))).trans (one_cell hv).1
      have Hown := Lib.hid ((hown.lower (B' := w.heap.size) (by simp; omega)))
      have Hown2 := Lib.hid (OwnU.set_far (k := W.heap.size) (i := 0) hown (by simp) (.int .i64 0))
      obtain ⟨A, c, rfl⟩ := hown.form
      clear hl hv hown e3
      go_wp2
      go_ret2
      exact lstU_ret (Hown2.out.lower (by simp; omega)) rfl (Hbel.out.setCell (by dsimp only; omega) _) E3.out.1 E3.out.2
    · cases h
  · rcases hcase with ⟨_, _, _, h, _⟩ | ⟨hn, _⟩
    · cases h
    · have e3 : ([] : List Int) = l ∧ 3 = err := by
        rcases H.out with ⟨_, rfl, rfl⟩ | ⟨h2, _⟩
        · exact ⟨rfl, rfl⟩
        · rw [hn] at h2; cases h2
      have E3 := Lib.hid e3
      clear hn e3
      go_wp2
      go_ret2
      exact lstU_ret (ownU_nil _ _) rfl ((Hbel.out.alloc (by omega) _).setCell (by dsimp only; omega) _) E3.out.1 E3.out.2
end Go.Proofs.Ytkcnpnnflbibiaa
