/- The law of what is told. -/
import Derived.Test.YtkcnpnnflbibiaaHh
import Derived.Test.YtkcnpnnflbibiaaHg
import Derived.Test.YtkcnpnnflbibiaaFh
import Derived.Test.YtkcnpnnflbibiaaJc
set_option linter.unusedVariables false
namespace Go.Proofs.Ytkcnpnnflbibiaa
open Go.RowKit

theorem mapE_err {α : Type} (g : α → Except Int ByteArray) (num : Int) (hg : ∀ a e, g a = .error e → e = 6) : ∀ (l : List α) (e : Int), mapE g num l = .error e → e = 6 := by
  intro l
  induction l with
  | nil => intro e h; simp [mapE] at h
  | cons x l ih =>
    intro e h
    unfold mapE at h
    cases hb : g x with
    | error e' => rw [hb] at h; simp at h; subst h; exact hg x _ hb
    | ok b =>
      rw [hb] at h
      simp only [] at h
      cases hr : mapE g num l with
      | error e' => rw [hr] at h; simp at h; subst h; exact ih _ hr
      | ok m' => rw [hr] at h; simp at h
theorem attrB_err (a : At) (e : Int) (h : attrB a = .error e) : e = 6 := by
  unfold attrB at h
  cases hm : attrMid a with
  | error e' =>
    rw [hm] at h
    simp at h
    subst h
    unfold attrMid at hm
    split at hm
    · simp at hm
    split at hm
    · simp at hm
    split at hm
    · simp at hm
    split at hm
    · cases hb : bytE (tenFds ⟨#[]⟩ a.t) with
      | error e'' => rw [hb] at hm; simp at hm; subst hm; exact bytE_err hb
      | ok b => rw [hb] at hm; simp at hm
    split at hm
    · simp at hm
    · simp at hm
  | ok l => rw [hm] at h; exact bytE_err h
theorem nodeB_err (a : Nd) (e : Int) (h : nodeB a = .error e) : e = 6 := by
  unfold nodeB at h
  cases hm : mapE attrB 5 a.attrs with
  | error e' => rw [hm] at h; simp at h; subst h; exact mapE_err attrB 5 attrB_err _ _ hm
  | ok l => rw [hm] at h; exact bytE_err h
theorem initB_err (a : Nm) (e : Int) (h : initB a = .error e) : e = 6 := bytE_err h
theorem valueB_err (a : Vl) (e : Int) (h : valueB a = .error e) : e = 6 := by
  unfold valueB at h
  cases hm : mapE dimB 1 a.dims with
  | error e' => rw [hm] at h; simp at h; subst h; exact mapE_err dimB 1 (fun a e h => bytE_err h) _ _ hm
  | ok l =>
    rw [hm] at h
    simp only [] at h
    cases h1 : bytE l with
    | error e' => rw [h1] at h; simp at h; subst h; exact bytE_err h1
    | ok b =>
      rw [h1] at h
      simp only [valB1] at h
      cases h2 : bytE [⟨1, 0, IntKind.u64.wrap a.typ, ⟨#[]⟩⟩, ⟨2, 2, 0, b⟩] with
      | error e' => rw [h2] at h; simp at h; subst h; exact bytE_err h2
      | ok c =>
        rw [h2] at h
        simp only [] at h
        cases h3 : bytE [⟨1, 2, 0, c⟩] with
        | error e' => rw [h3] at h; simp at h; subst h; exact bytE_err h3
        | ok d => rw [h3] at h; exact bytE_err h
theorem graphFds_err (g : Gr) (e : Int) (h : graphFds g = .error e) : e = 6 := by
  unfold graphFds at h
  cases h1 : mapE nodeB 1 g.nodes with
  | error e' => rw [h1] at h; simp at h; subst h; exact mapE_err _ _ nodeB_err _ _ h1
  | ok m1 =>
  rw [h1] at h
  simp only [] at h
  cases h2 : mapE initB 5 g.inits with
  | error e' => rw [h2] at h; simp at h; subst h; exact mapE_err _ _ initB_err _ _ h2
  | ok m2 =>
  rw [h2] at h
  simp only [] at h
  cases h3 : mapE valueB 11 g.ins with
  | error e' => rw [h3] at h; simp at h; subst h; exact mapE_err _ _ valueB_err _ _ h3
  | ok m3 =>
  rw [h3] at h
  simp only [] at h
  cases h4 : mapE valueB 12 g.outs with
  | error e' => rw [h4] at h; simp at h; subst h; exact mapE_err _ _ valueB_err _ _ h4
  | ok m4 => rw [h4] at h; simp at h
/-- Three ways of telling. -/
theorem tell_ways (g : Gr) : (toldB g = false ∧ encS g = ⟨#[]⟩ ∧ encErr g = 1) ∨ (toldB g = true ∧ encS g = ⟨#[]⟩ ∧ encErr g = 6) ∨ (toldB g = true ∧ encodeE g = .ok (encS g) ∧ encErr g = 0) := by
  cases ht : toldB g with
  | false =>
    have : encodeE g = .error 1 := by unfold encodeE; rw [if_pos ht]
    exact .inl ⟨rfl, by unfold encS; rw [this], by unfold encErr; rw [this]⟩
  | true =>
    refine .inr ?_
    cases he : encodeE g with
    | ok s => exact .inr ⟨rfl, by unfold encS; rw [he], by unfold encErr; rw [he]⟩
    | error e =>
      have h6 : e = 6 := by
        have h := he
        unfold encodeE at h
        rw [if_neg (by rw [ht]; decide)] at h
        cases hl : graphFds g with
        | error e' => rw [hl] at h; simp at h; subst h; exact graphFds_err _ _ hl
        | ok l =>
          rw [hl] at h
          simp only [] at h
          cases hb : bytE l with
          | error e' => rw [hb] at h; simp at h; subst h; exact bytE_err hb
          | ok b =>
            rw [hb] at h
            simp only [modelB] at h
            cases ho : bytE [⟨2, 0, 13, ⟨#[]⟩⟩] with
            | error e' => rw [ho] at h; simp at h; subst h; exact bytE_err ho
            | ok o => rw [ho] at h; exact bytE_err h
      exact .inl ⟨rfl, by unfold encS; rw [he], by unfold encErr; rw [he]; exact h6⟩
theorem isSlc_at {α : Type} {ρ : Rep α} {w : World} {Z : Nat → Prop} {A : Option Addr} {n c : Nat} {l : List α} (h : IsSlc ρ w Z (.slice A n c) l) : Slc ρ w Z A n l := by
  obtain ⟨A', n', c', e, hs⟩ := h
  simp only [Value.slice.injEq] at e
  obtain ⟨rfl, rfl, rfl⟩ := e
  exact hs
theorem GO.at_ {g : Gr} {lab : Nat → Nat} {w : World} {lo : Nat} {An Ai Ao At_ : Option Addr} {nn ni no nt cn ci co ct : Nat} (h : GO g lab w lo (.slice An nn cn) (.slice Ai ni ci) (.slice Ao no co) (.slice At_ nt ct)) : GrAt g w (Since lo w) An nn Ai ni Ao no At_ nt :=
  ⟨isSlc_at (h.on.isSlc (by decide)), isSlc_at (h.oi.isSlc (by decide)), isSlc_at (h.oo.isSlc (by decide)), isSlc_at (h.ot.isSlc (by decide))⟩
theorem encS_size {g : Gr} {s : ByteArray} (h : encodeE g = .ok s) : s.size ≤ 16777216 := by
  obtain ⟨l, b, o, q⟩ := enc_parts h
  exact (fldsE_ok q.fl).2.1

set_option maxRecDepth 100000 in
set_option maxHeartbeats 6400000 in
theorem tells_law (g : Gr) (w : World) (Z : Nat → Prop) (An Ai Ao At_ : Option Addr) (cn ci co ct : Nat) (hat : GrAt g w Z An g.nodes.length Ai g.ins.length Ao g.outs.length At_ g.inits.length) (hZ : ∀ k, Z k → k < w.heap.size) (hok : CopOk g) (hin : GrIn g) (hsz : GrSz g) :
    Calls Try.prog 4 #[.agg #[.string g.name, .slice An g.nodes.length cn, .slice Ai g.ins.length ci, .slice Ao g.outs.length co, .slice At_ g.inits.length ct]] w fun e w' => e = .returned (.bool true) ∧ Below w.heap.size w w' := by
  have hb0 : Below w.heap.size w (w.alloc (.cells #[.string g.name, .slice An g.nodes.length cn, .slice Ai g.ins.length ci, .slice Ao g.outs.length co, .slice At_ g.inits.length ct] 34)) := (Below.refl _ _).alloc (Nat.le_refl _) _
  have hg0 := heap_alloc_new w (.cells #[.string g.name, .slice An g.nodes.length cn, .slice Ai g.ins.length ci, .slice Ao g.outs.length co, .slice At_ g.inits.length ct] 34)
  have z0 : w.heap.size < (w.alloc (.cells #[.string g.name, .slice An g.nodes.length cn, .slice Ai g.ins.length ci, .slice Ao g.outs.length co, .slice At_ g.inits.length ct] 34)).heap.size := by simp
  have kp : ∀ k, Z k → (w.alloc (.cells #[.string g.name, .slice An g.nodes.length cn, .slice Ai g.ins.length ci, .slice Ao g.outs.length co, .slice At_ g.inits.length ct] 34)).heap[k]? = w.heap[k]? := fun k hk => hb0.block k (hZ k hk)
  have zq : ∀ k, Z k → k < (w.alloc (.cells #[.string g.name, .slice An g.nodes.length cn, .slice Ai g.ins.length ci, .slice Ao g.outs.length co, .slice At_ g.inits.length ct] 34)).heap.size := fun k hk => Nat.lt_of_lt_of_le (hZ k hk) hb0.size
  have HCp := Lib.hid (copyG_any g (w.alloc (.cells #[.string g.name, .slice An g.nodes.length cn, .slice Ai g.ins.length ci, .slice Ao g.outs.length co, .slice At_ g.inits.length ct] 34)) Z An Ai Ao At_ _ cn _ ci _ co _ ct (hat.nodes.keep kp (fun _ h => h)) (hat.ins.keep kp (fun _ h => h)) (hat.outs.keep kp (fun _ h => h)) (hat.inits.keep kp (fun _ h => h)) zq hok)
  have x0 := cell_of_row _ _ 0 _ 34 (0, 0) hg0
  have x1 := cell_of_row _ _ 1 _ 34 (0, 0) hg0
  have x2 := cell_of_row _ _ 2 _ 34 (0, 0) hg0
  have x3 := cell_of_row _ _ 3 _ 34 (0, 0) hg0
  have x4 := cell_of_row _ _ 4 _ 34 (0, 0) hg0
  simp only [List.getElem?_toArray, List.getElem?_cons_zero, List.getElem?_cons_succ] at x0 x1 x2 x3 x4
  have HB0 := Lib.hid hb0
  have HG0 := Lib.hid hg0
  have Harg := Lib.hid hat
  have HZ := Lib.hid hZ
  have HOK := Lib.hid hok
  have HIn := Lib.hid hin
  have HSz := Lib.hid hsz
  have HL := Lib.hid live_any
  have HW := Lib.hid (tell_ways g)
  clear hb0 hg0 kp zq hat hZ hok hin hsz
  go_enter Try.func4, Try.ntmps4
  go_wp2_with fail
  generalize (w.alloc (.cells #[.string g.name, .slice An g.nodes.length cn, .slice Ai g.ins.length ci, .slice Ao g.outs.length co, .slice At_ g.inits.length ct] 34)) = w0 at HB0 HG0 HCp z0 x0 x1 x2 x3 x4 ⊢
  refine HCp.out.mono ?_
  rintro e w1 ⟨Bn, dn, Bi, di, Bo, do_, Bt, dt, lab, rfl, hgo, hb1⟩
  have z1 := hb1.size
  have hal : Below w1.heap.size w1 (w1.alloc (.cells #[.string g.name, .slice Bn g.nodes.length dn, .slice Bi g.ins.length di, .slice Bo g.outs.length do_, .slice Bt g.inits.length dt] 34)) := (Below.refl _ _).alloc (Nat.le_refl _) _
  have hb2 : Below w0.heap.size w0 (w1.alloc (.cells #[.string g.name, .slice Bn g.nodes.length dn, .slice Bi g.ins.length di, .slice Bo g.outs.length do_, .slice Bt g.inits.length dt] 34)) := hb1.trans (hal.mono hb1.size)
  have Hown := Lib.hid (hgo.at_.later hal (Nat.le_refl _))
  have hg1 := heap_alloc_new w1 (.cells #[.string g.name, .slice Bn g.nodes.length dn, .slice Bi g.ins.length di, .slice Bo g.outs.length do_, .slice Bt g.inits.length dt] 34)
  have y0 := cell_of_row _ _ 0 _ 34 (0, 0) hg1
  have y1 := cell_of_row _ _ 1 _ 34 (0, 0) hg1
  have y2 := cell_of_row _ _ 2 _ 34 (0, 0) hg1
  have y3 := cell_of_row _ _ 3 _ 34 (0, 0) hg1
  have y4 := cell_of_row _ _ 4 _ 34 (0, 0) hg1
  simp only [List.getElem?_toArray, List.getElem?_cons_zero, List.getElem?_cons_succ] at y0 y1 y2 y3 y4
  have hg0 := (hb2.block w.heap.size z0).trans HG0.out
  have HG2 := Lib.hid hg0
  have HO2 := Lib.hid hg1
  have HB2 := Lib.hid hb2
  have zl : (w1.alloc (.cells #[.string g.name, .slice Bn g.nodes.length dn, .slice Bi g.ins.length di, .slice Bo g.outs.length do_, .slice Bt g.inits.length dt] 34)).heap.size = w1.heap.size + 1 := by simp
  have zl1 : (w1.alloc (.cells #[.string g.name, .slice Bn g.nodes.length dn, .slice Bi g.ins.length di, .slice Bo g.outs.length do_, .slice Bt g.inits.length dt] 34)).heap.size ≤ w1.heap.size + 1 := Nat.le_of_eq zl
  have zl2 : w1.heap.size + 1 ≤ (w1.alloc (.cells #[.string g.name, .slice Bn g.nodes.length dn, .slice Bi g.ins.length di, .slice Bo g.outs.length do_, .slice Bt g.inits.length dt] 34)).heap.size := Nat.le_of_eq zl.symm
  clear hgo hb1 hal hb2 hg0 hg1 zl x0 x1 x2 x3 x4
  go_wp2_with fail
  generalize (w1.alloc (.cells #[.string g.name, .slice Bn g.nodes.length dn, .slice Bi g.ins.length di, .slice Bo g.outs.length do_, .slice Bt g.inits.length dt] 34)) = w2 at Hown HG2 HO2 HB2 zl1 zl2 y0 y1 y2 y3 y4 ⊢
  refine (encode_any g w2 (Since w0.heap.size w2) Bn Bi Bo Bt _ dn _ di _ do_ _ dt Hown.out.nodes Hown.out.ins Hown.out.outs Hown.out.inits (fun k hk => hk.2) HSz.out).mono ?_
  rintro e w3 ⟨rfl, hb3⟩
  have z3 := hb3.size
  have hg3 := (hb3.block w.heap.size (by omega)).trans HG2.out
  have ho3 := (hb3.block w1.heap.size (by omega)).trans HO2.out
  have x0 := cell_of_row _ _ 0 _ 34 (0, 0) hg3
  have x1 := cell_of_row _ _ 1 _ 34 (0, 0) hg3
  have x2 := cell_of_row _ _ 2 _ 34 (0, 0) hg3
  have x3 := cell_of_row _ _ 3 _ 34 (0, 0) hg3
  have x4 := cell_of_row _ _ 4 _ 34 (0, 0) hg3
  have u0 := cell_of_row _ _ 0 _ 34 (0, 0) ho3
  have u1 := cell_of_row _ _ 1 _ 34 (0, 0) ho3
  have u2 := cell_of_row _ _ 2 _ 34 (0, 0) ho3
  have u3 := cell_of_row _ _ 3 _ 34 (0, 0) ho3
  have u4 := cell_of_row _ _ 4 _ 34 (0, 0) ho3
  simp only [List.getElem?_toArray, List.getElem?_cons_zero, List.getElem?_cons_succ] at x0 x1 x2 x3 x4 u0 u1 u2 u3 u4
  have HB3 := Lib.hid (HB2.out.trans (hb3.mono HB2.out.size))
  have hbw3 : Below w.heap.size w w3 := HB0.out.trans (HB3.out.mono HB0.out.size)
  have Hown3 := Lib.hid (Hown.out.later hb3 (lo' := 0) (Nat.zero_le _))
  have HG3 := Lib.hid hg3
  have Harg3 := Lib.hid (Harg.out.keep (w' := w3) (Z' := Since 0 w3) (fun k hk => hbw3.block k (HZ.out k hk)) (fun k hk => ⟨Nat.zero_le _, Nat.lt_of_lt_of_le (HZ.out k hk) hbw3.size⟩))
  have HBw3 := Lib.hid hbw3
  have zw3 : w.heap.size < w3.heap.size := by omega
  clear hb3 hg3 ho3 y0 y1 y2 y3 y4 Hown hbw3 zl1 zl2
  go_wp2_with fail
  refine (same_yes g w3 (Since 0 w3) Bn Bi Bo Bt An Ai Ao At_ _ _ _ _ dn di do_ dt cn ci co ct Hown3.out.nodes Hown3.out.ins Hown3.out.outs Hown3.out.inits Harg3.out.nodes Harg3.out.ins Harg3.out.outs Harg3.out.inits (fun k hk => hk.2)).mono ?_
  rintro e w4 ⟨rfl, hb4⟩
  have z4 := hb4.size
  have HG4 := Lib.hid ((hb4.block w.heap.size zw3).trans HG3.out)
  have HBw4 := Lib.hid (HBw3.out.trans (hb4.mono HBw3.out.size))
  have Harg4 := Lib.hid (Harg3.out.later hb4 (Nat.le_refl _))
  clear hb4 x0 x1 x2 x3 x4 u0 u1 u2 u3 u4 Hown3
  go_wp2_with fail
  refine (HL.out _).mono ?_
  rintro e w5 ⟨rfl, hb5⟩
  have z5 := hb5.size
  have hg5 := (hb5.block w.heap.size (by omega)).trans HG4.out
  have x0 := cell_of_row _ _ 0 _ 34 (0, 0) hg5
  have x1 := cell_of_row _ _ 1 _ 34 (0, 0) hg5
  have x2 := cell_of_row _ _ 2 _ 34 (0, 0) hg5
  have x3 := cell_of_row _ _ 3 _ 34 (0, 0) hg5
  have x4 := cell_of_row _ _ 4 _ 34 (0, 0) hg5
  simp only [List.getElem?_toArray, List.getElem?_cons_zero, List.getElem?_cons_succ] at x0 x1 x2 x3 x4
  have HG5 := Lib.hid hg5
  have HBw5 := Lib.hid (HBw4.out.trans (hb5.mono HBw4.out.size))
  have Harg5 := Lib.hid (Harg4.out.later hb5 (Nat.le_refl _))
  clear hb5 hg5
  go_wp2_with fail
  refine (rtold_any g w5 (Since 0 w5) An Ai Ao At_ _ cn _ ci _ co _ ct Harg5.out.nodes Harg5.out.ins Harg5.out.outs Harg5.out.inits (fun k hk => hk.2) (by have := HOK.out.nodes; have := HOK.out.ins; have := HOK.out.inits; omega) HOK.out.ins HOK.out.outs).mono ?_
  rintro e w6 ⟨rfl, hb6⟩
  have z6 := hb6.size
  have hg6 := (hb6.block w.heap.size (by omega)).trans HG5.out
  have HBw6 := Lib.hid (HBw5.out.trans (hb6.mono HBw5.out.size))
  have Harg6 := Lib.hid (Harg5.out.later hb6 (Nat.le_refl _))
  have HG6 := Lib.hid hg6
  clear hb6 hg6 x0 x1 x2 x3 x4
  rcases HW.out with ⟨ht, hs, he⟩ | ⟨ht, hs, he⟩ | ⟨ht, hs, he⟩
  · rw [ht, hs, he]
    clear ht hs he
    go_wp2
    go_ret
    exact ⟨rfl, HBw6.out⟩
  · rw [ht, hs, he]
    clear ht hs he
    go_wp2
    go_ret
    exact ⟨rfl, HBw6.out⟩
  · rw [ht, he]
    have hsz := encS_size hs
    have HD := Lib.hid (fun w => decode_ok (decode_back HIn.out hs) (by omega) w)
    clear ht hs he
    generalize encS g = S at hsz HD ⊢
    go_wp2_with fail
    refine (HD.out _).mono ?_
    rintro e w7 ⟨C1, c1, C2, c2, C3, c3, C4, c4, rfl, hb7, hat7⟩
    have z7 := hb7.size
    have hal : Below w7.heap.size w7 (w7.alloc (.cells #[.string g.name, .slice C1 g.nodes.length c1, .slice C2 g.ins.length c2, .slice C3 g.outs.length c3, .slice C4 g.inits.length c4] 34)) := (Below.refl _ _).alloc (Nat.le_refl _) _
    have Hd8 := Lib.hid (hat7.later hal (lo' := 0) (Nat.zero_le _))
    have Ha8 := Lib.hid (Harg6.out.later (hb7.trans (hal.mono hb7.size)) (Nat.le_refl _))
    have hg7 := heap_alloc_new w7 (.cells #[.string g.name, .slice C1 g.nodes.length c1, .slice C2 g.ins.length c2, .slice C3 g.outs.length c3, .slice C4 g.inits.length c4] 34)
    have hg8 := ((hb7.trans (hal.mono hb7.size)).block w.heap.size (by omega)).trans HG6.out
    have u0 := cell_of_row _ _ 0 _ 34 (0, 0) hg7
    have u1 := cell_of_row _ _ 1 _ 34 (0, 0) hg7
    have u2 := cell_of_row _ _ 2 _ 34 (0, 0) hg7
    have u3 := cell_of_row _ _ 3 _ 34 (0, 0) hg7
    have u4 := cell_of_row _ _ 4 _ 34 (0, 0) hg7
    have x0 := cell_of_row _ _ 0 _ 34 (0, 0) hg8
    have x1 := cell_of_row _ _ 1 _ 34 (0, 0) hg8
    have x2 := cell_of_row _ _ 2 _ 34 (0, 0) hg8
    have x3 := cell_of_row _ _ 3 _ 34 (0, 0) hg8
    have x4 := cell_of_row _ _ 4 _ 34 (0, 0) hg8
    simp only [List.getElem?_toArray, List.getElem?_cons_zero, List.getElem?_cons_succ] at u0 u1 u2 u3 u4 x0 x1 x2 x3 x4
    have HBw8 := Lib.hid (HBw6.out.trans ((hb7.trans (hal.mono hb7.size)).mono HBw6.out.size))
    clear hb7 hat7 hal hg7 hg8
    go_wp2_with fail
    generalize (w7.alloc (.cells #[.string g.name, .slice C1 g.nodes.length c1, .slice C2 g.ins.length c2, .slice C3 g.outs.length c3, .slice C4 g.inits.length c4] 34)) = w8 at Hd8 Ha8 HBw8 u0 u1 u2 u3 u4 x0 x1 x2 x3 x4 ⊢
    refine (same_yes g w8 (Since 0 w8) C1 C2 C3 C4 An Ai Ao At_ _ _ _ _ c1 c2 c3 c4 cn ci co ct Hd8.out.nodes Hd8.out.ins Hd8.out.outs Hd8.out.inits Ha8.out.nodes Ha8.out.ins Ha8.out.outs Ha8.out.inits (fun k hk => hk.2)).mono ?_
    rintro e w9 ⟨rfl, hb9⟩
    have HBw9 := Lib.hid (HBw8.out.trans (hb9.mono HBw8.out.size))
    clear hb9
    go_wp2
    go_ret
    exact ⟨rfl, HBw9.out⟩
end Go.Proofs.Ytkcnpnnflbibiaa
