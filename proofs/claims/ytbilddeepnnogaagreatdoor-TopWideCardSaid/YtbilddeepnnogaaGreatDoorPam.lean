import Derived.Test.YtbilddeepnnogaaGreatDoorIam
import Derived.Test.YtbilddeepnnogaaGreatDoorOcm
set_option linter.unusedVariables false
set_option linter.unusedSimpArgs false
/- Layer 5: a graph of these may be told. -/
section
set_option linter.unusedVariables false
set_option maxRecDepth 100000
namespace Go.Proofs.YtbilddeepnnogaaGreatDoor
open Go.RowKit Go.Shelf

/-- The nodes' names are empty. -/
def Nam (w : World) (A : Option Addr) (n : Nat) : Prop := ∃ b off, A = some ⟨b, off, none⟩ ∧ b < w.heap.size ∧ ∀ j, j < n → w.cell? ⟨b, off + j * 5 + 1, none⟩ = some (.string ⟨#[]⟩)
theorem Nam.below {w w' : World} {A : Option Addr} {n : Nat} (h : Nam w A n) (hs : Since w w') : Nam w' A n := by
  obtain ⟨b, off, rfl, h1, h2⟩ := h
  exact ⟨b, off, rfl, Nat.lt_of_lt_of_le h1 hs.size, fun j hj => (hs.cell (p := ⟨b, _, none⟩) h1).trans (h2 j hj)⟩
theorem long85 (s : ByteArray) (h : s.size ≤ 100) (w : World) : Calls Tryz.prog 85 #[.string s] w fun e w' => e = .returned (.bool false) ∧ w' = w := by
  have h1 : ¬ (100 : Int) < s.size := by omega
  go_enter Tryz.func85, Tryz.ntmps85
  go_wp2_with fail
  go_ret
  exact ⟨rfl, rfl⟩
theorem long_x (w : World) : Calls Tryz.prog 85 #[.string ⟨#[120]⟩] w fun e w' => e = .returned (.bool false) ∧ w' = w := long85 _ (by decide) w
set_option maxHeartbeats 800000 in
theorem idx158 (A : Option Addr) (m c : Nat) (w : World) (h : Xs w A m) (hm : m ≤ 2) :
    Calls Tryz.prog 158 #[.slice A m c, .func (.func 85) #[] #[]] w fun e w' => e = .returned (.int .i64 (-1)) ∧ w' = w := by
  obtain ⟨b, off, rfl, hb, hc⟩ := h
  have HC := Lib.hid hc
  clear hc
  go_enter Tryz.func158, Tryz.ntmps158
  go_wp2_with fail
  go_loop [5, 8] (fun _ i => ∃ k : Nat, k ≤ m ∧ i = .int .i64 k) (fun _ i => m - (intOf i).toNat)
  case atStart => exact ⟨0, Nat.zero_le _, rfl⟩
  case round =>
    obtain ⟨k, hk, rfl⟩ := hrel
    by_cases hlt : k < m
    · have c0 := HC.out k hlt
      have hki : (k : Int) < m := by omega
      go_wp2_with fail
      refine (long_x w).mono ?_
      rintro e w' ⟨rfl, rfl⟩
      go_wp2_with fail
      go_round
      case rel => exact ⟨k + 1, by omega, by go_num⟩
      case measure => simp [intOf]; omega
    · obtain rfl : k = m := by omega
      go_wp2_with fail
      go_ret
      exact ⟨rfl, rfl⟩
theorem has86 (A : Option Addr) (m c : Nat) (w : World) (h : Xs w A m) (hm : m ≤ 2) :
    Calls Tryz.prog 86 #[.slice A m c, .func (.func 85) #[] #[]] w fun e w' => e = .returned (.bool false) ∧ w' = w := by
  have HI := idx158 A m c w h hm
  clear h
  go_enter Tryz.func86, Tryz.ntmps86
  go_wp2_with fail
  refine HI.mono ?_
  rintro e w' ⟨rfl, rfl⟩
  go_wp2_with fail
  go_ret
  exact ⟨rfl, rfl⟩
set_option maxHeartbeats 1600000 in
theorem short40 (op out : ByteArray) (A : Option Addr) (m c : Nat) (w : World) (h : Xs w A m) (hm : m ≤ 2) (h1 : op.size ≤ 100) (h2 : out.size ≤ 100) :
    Calls Tryz.prog 40 #[.agg #[.string op, .string ⟨#[]⟩, .slice A m c, .string out, .slice none 0 0]] w fun e w' => e = .returned (.bool true) ∧ Since w w' := by
  have H := Lib.hid h
  have L1 := Lib.hid (fun w => long85 op h1 w)
  have L2 := Lib.hid (fun w => long85 out h2 w)
  have L0 := Lib.hid (fun w => long85 ⟨#[]⟩ (by decide) w)
  have hmi : (m : Int) ≤ 20 := by omega
  clear h
  go_enter Tryz.func40, Tryz.ntmps40
  go_wp2_with fail
  refine newX (F := fun W => Calls _ _ _ W _) ?_
  intro w1 hx
  obtain ⟨r0, r1, r2, r3, r4, -⟩ := cells5 (hx.b0 rfl)
  have HH := has86 A m c w1 (H.out.below hx.below) hm
  have HS := Lib.hid hx.below
  clear hx
  refine (L0.out _).mono ?_
  rintro e w2 ⟨rfl, rfl⟩
  go_wp2_with (first
    | (go_at_call 85; ((first | (with_reducible refine (L1.out _).mono ?_) | (with_reducible refine (L2.out _).mono ?_)); rintro e w3 ⟨rfl, rfl⟩))
    | (go_at_call 86; refine HH.mono ?_; rintro e w4 ⟨rfl, rfl⟩))
  go_ret
  exact ⟨rfl, HS.out⟩
set_option maxHeartbeats 1600000 in
theorem few39 (An Ai Ao : Option Addr) (n cn ci co : Nat) (w : World) (hn : n ≤ 5) :
    Calls Tryz.prog 39 #[.agg #[.string ⟨#[]⟩, .slice An n cn, .slice Ai 1 ci, .slice Ao n co, .slice none 0 0]] w fun e w' => e = .returned (.bool true) ∧ Since w w' := by
  have h1 : (n : Int) ≤ 1000 := by omega
  have h2 : (1 : Int) + n ≤ 3000 := by omega
  have h3 : (n : Int) ≤ 3000 := by omega
  have h4 : IntKind.i64.wrap ((1 : Int) + n) = 1 + n := by rw [IntKind.wrap_i64]; omega
  go_enter Tryz.func39, Tryz.ntmps39
  go_wp2_with fail
  go_ret
  exact ⟨rfl, (Below.refl _ _).alloc (Nat.le_refl _) _⟩
end Go.Proofs.YtbilddeepnnogaaGreatDoor
end
/- Layer 5: told. -/
section
set_option linter.unusedVariables false
set_option maxRecDepth 100000
namespace Go.Proofs.YtbilddeepnnogaaGreatDoor
open Go.RowKit Go.Shelf

/-- The graph's row. -/
abbrev grow (An Ai Ao : Option Addr) (cn ci co n : Nat) : Obj := .cells #[.string ⟨#[]⟩, .slice An n cn, .slice Ai 1 ci, .slice Ao n co, .slice none 0 0] 33
/-- A node's row at k. -/
theorem FlatG.node {w : World} {An Ai Ao : Option Addr} {l : List Op1} {x : Int} (h : FlatG w An Ai Ao l x) (hn : Nam w An l.length) {k : Nat} {o : Op1} (ho : l[k]? = some o) : ∃ b off A' c, An = some ⟨b, off, none⟩ ∧ b < w.heap.size ∧ w.cell? ⟨b, off + k * 5, none⟩ = some (.string o.op) ∧ w.cell? ⟨b, off + k * 5 + 1, none⟩ = some (.string ⟨#[]⟩) ∧ w.cell? ⟨b, off + k * 5 + 2, none⟩ = some (.slice A' o.m c) ∧ w.cell? ⟨b, off + k * 5 + 3, none⟩ = some (.string o.out) ∧ w.cell? ⟨b, off + k * 5 + 4, none⟩ = some (.slice none 0 0) ∧ Xs w A' o.m ∧ o.m ≤ 2 := by
  obtain ⟨b, off, rfl, hb, hc⟩ := h.nodes
  obtain ⟨b', off', e, -, hc'⟩ := hn
  cases e
  obtain ⟨nm, A', c, q0, q1, q2, q3, q4, q5⟩ := hc k o ho
  exact ⟨b, off, A', c, rfl, hb, q0, hc' k (List.getElem?_eq_some_iff.1 ho).1, q2, q3, q4, q5, by have := (h.ok.ops o (List.mem_of_getElem? ho)).cases; omega⟩
set_option maxHeartbeats 3200000 in
theorem told15 (An Ai Ao : Option Addr) (cn ci co : Nat) (l : List Op1) (x : Nat) (w : World) (h : FlatG w An Ai Ao l x) (hn : Nam w An l.length) (hsz : ∀ o ∈ l, o.op.size ≤ 100 ∧ o.out.size ≤ 100) :
    Calls Tryz.prog 15 #[.agg #[.string ⟨#[]⟩, .slice An l.length cn, .slice Ai 1 ci, .slice Ao l.length co, .slice none 0 0]] w fun e w' => e = .returned (.bool true) ∧ Since w w' := by
  have H := Lib.hid h
  have HN := Lib.hid hn
  have HSZ := Lib.hid hsz
  have h5 := h.ok.most
  have hx1 : 1 ≤ (x : Int) := h.lo
  have hx2 : (x : Int) ≤ 30 := h.hi
  have hF := fun w => few39 An Ai Ao l.length cn ci co w h5
  have HF := Lib.hid hF
  clear h hn hsz hF
  go_enter Tryz.func15, Tryz.ntmps15
  go_wp2_with fail
  refine newX (F := fun W => Calls _ _ _ W _) ?_
  intro w1 h1
  have HX1 := Lib.hid h1
  clear h1
  refine (HF.out w1).mono ?_
  rintro e w2 ⟨rfl, hs2⟩
  have hx2 := HX1.out.all hs2
  obtain ⟨r0, r1, r2, r3, r4, -⟩ := cells5 (hx2.b0 rfl)
  have HX2 := Lib.hid hx2
  clear hs2 hx2
  go_wp2_with fail
  clear r0 r1 r2 r3 r4
  go_loopw [3, 21] (fun t i wr => ∃ k : Nat, k ≤ l.length ∧ i = .int .i64 k ∧ t = .bool true ∧ Fx w wr [some (grow An Ai Ao cn ci co l.length)]) (fun _ i _ => l.length - (intOf i).toNat)
  case atStart => exact ⟨0, Nat.zero_le _, rfl, rfl, HX2.out⟩
  case round =>
    obtain ⟨k, hk, rfl, rfl, hx⟩ := hrel
    by_cases hlt : k < l.length
    · obtain ⟨o, ho⟩ : ∃ o, l[k]? = some o := ⟨_, List.getElem?_eq_getElem hlt⟩
      obtain ⟨b, off, A', c, rfl, hb, q0, q1, q2, q3, q4, q5, hm⟩ := (H.out.below hx.below).node (HN.out.below hx.below) ho
      have hki : (k : Int) < l.length := by omega
      have hz := HSZ.out o (List.mem_of_getElem? ho)
      have hS := fun W (hW : Since wr W) => short40 o.op o.out A' o.m c W (q5.below hW) hm hz.1 hz.2
      have HS := Lib.hid hS
      have HX := Lib.hid hx
      clear hS q5 hx ho hz
      go_wp2_with fail
      refine newX (F := fun W => Calls _ _ _ W _) ?_
      intro w3 h3
      have HX3 := Lib.hid h3
      clear h3
      refine (HS.out w3 HX3.out.below).mono ?_
      rintro e w4 ⟨rfl, hs4⟩
      have h4 := HX3.out.all hs4
      obtain ⟨a0, a1, a2, a3, a4, -⟩ := cells5 (h4.b0 rfl)
      have HX4 := Lib.hid (HX.out.all h4.below)
      clear h4 hs4
      go_wp2_with fail
      refine wp_loop_rounds 1 ?_
      rw [rounds_succ]
      go_wp2_with fail
      exact ⟨⟨k + 1, by omega, by go_num, rfl, HX4.out⟩, by simp [intOf]; omega⟩
    · obtain rfl : k = l.length := by omega
      obtain ⟨r0, r1, r2, r3, r4, -⟩ := cells5 (hx.b0 rfl)
      have HX := Lib.hid hx
      clear hx
      go_wp2_with fail
      refine newX (F := fun W => Code.wp _ _ _ _ W) ?_
      intro w3 h3
      have HX3 := Lib.hid (HX.out.all h3.below)
      have HB3 := Lib.hid (h3.b0 rfl)
      clear h3 r0 r1 r2 r3 r4
      generalize wr.heap.size = B at HB3 ⊢
      go_loopw [3, 56] (fun t i wr => ∃ k : Nat, k ≤ 2 ∧ i = .int .i64 k ∧ t = .bool true ∧ Fx w wr [some (grow An Ai Ao cn ci co l.length)] ∧ wr.heap[B]? = some (.cells #[.slice Ai 1 ci, .slice Ao l.length co] 29 (0, 0))) (fun _ i _ => 2 - (intOf i).toNat)
      case atStart => exact ⟨0, by omega, rfl, rfl, HX3.out, HB3.out⟩
      case round =>
        obtain ⟨k, hk, rfl, rfl, hx, hB⟩ := hrel
        by_cases hlt : k < 2
        · obtain ⟨A, n, c, ns, c0, hv, hnl, hn5, hns⟩ : ∃ A n c ns, wr.cell? ⟨B, k, none⟩ = some (.slice A n c) ∧ VlAt wr A ns x ∧ ns.length = n ∧ n ≤ 5 ∧ ∀ s ∈ ns, s.size ≤ 100 := by
            rcases (show k = 0 ∨ k = 1 by omega) with rfl | rfl
            · exact ⟨_, _, _, _, cell_of_row _ _ 0 _ 29 (0, 0) hB, (H.out.below hx.below).ins, rfl, by omega, fun s hs => by simp at hs; subst hs; decide⟩
            · exact ⟨_, _, _, _, cell_of_row _ _ 1 _ 29 (0, 0) hB, (H.out.below hx.below).outs, by simp, h5, fun s hs => by
                obtain ⟨o, ho, rfl⟩ := List.mem_map.1 hs
                exact (HSZ.out o ho).2⟩
          have hki : (k : Int) < 2 := by omega
          have HV := Lib.hid hv
          have HNS := Lib.hid hns
          have HNL := Lib.hid hnl
          have HST := Lib.hid (And.intro hx hB)
          clear hx hB hv hns hnl
          obtain ⟨W, rfl⟩ : ∃ W, W = wr := ⟨_, rfl⟩
          go_wp2_with fail
          clear c0
          go_loopw [3, 62] (fun t i wr => ∃ j : Nat, j ≤ n ∧ i = .int .i64 j ∧ t = .bool true ∧ Since W wr) (fun _ i _ => n - (intOf i).toNat)
          case atStart => exact ⟨0, by omega, rfl, rfl, Since.refl _⟩
          case round =>
            obtain ⟨j, hj, rfl, rfl, hs⟩ := hrel
            by_cases hjn : j < n
            · obtain ⟨b, off, rfl, hb, hc⟩ := HV.out.below hs
              obtain ⟨s, hsj⟩ : ∃ s, ns[j]? = some s := ⟨_, List.getElem?_eq_getElem (by rw [HNL.out]; exact hjn)⟩
              obtain ⟨Ad, cd, q0, q1, q2, q3⟩ := hc j s hsj
              have hsz : (s.size : Int) ≤ 100 := by have := HNS.out s (List.mem_of_getElem? hsj); omega
              have hji : (j : Int) < n := by omega
              have HC := Lib.hid (fun W (hW : Since wr W) => count1_any W Ad cd x (q3.below hW) hx1 hx2)
              have HS := Lib.hid hs
              clear hc q3 hs hsj
              go_wp2_with fail
              refine newX (F := fun W => Calls _ _ _ W _) ?_
              intro w5 h5
              obtain ⟨a0, a1, a2, -⟩ := cells3 (h5.b0 rfl)
              have HX5 := Lib.hid h5.below
              clear h5
              refine (HC.out w5 HX5.out).mono ?_
              rintro e w6 ⟨rfl, rfl⟩
              go_wp2_with (go_at_call 43; refine (typed43 _).mono ?_; rintro e w7 ⟨rfl, rfl⟩)
              have HEND := Lib.hid (HS.out.trans HX5.out)
              exact ⟨⟨j + 1, by omega, by go_num, rfl, HEND.out⟩, by simp [intOf]; omega⟩
            · obtain rfl : j = n := by omega
              have HS := Lib.hid hs
              clear hs
              go_wp2_with fail
              exact ⟨⟨k + 1, by omega, by go_num, rfl, HST.out.1.all HS.out, HS.out.kp HST.out.2⟩, by simp [intOf]; omega⟩
        · obtain rfl : k = 2 := by omega
          obtain ⟨r0, r1, r2, r3, r4, -⟩ := cells5 (hx.b0 rfl)
          have HX := Lib.hid hx
          clear hx
          go_wp2_with fail
          refine wp_loop_rounds 1 ?_
          rw [rounds_succ]
          go_wp2_with fail
          go_ret
          exact ⟨rfl, HX.out.below⟩
end Go.Proofs.YtbilddeepnnogaaGreatDoor
end
/- Layer 5: what is written of nodes and values. -/
section
set_option linter.unusedVariables false
set_option maxRecDepth 100000
namespace Go.Proofs.YtbilddeepnnogaaGreatDoor
open Go.RowKit Go.Shelf

/-- A field as they are written here. -/
def FdG (f : Fd) : Prop := 1 ≤ f.num ∧ f.num ≤ 1000 ∧ f.b.size ≤ 10000 ∧ ((f.kind = 0 ∧ f.b = ⟨#[]⟩ ∧ 0 ≤ f.u ∧ f.u < 1000000) ∨ (f.kind = 2 ∧ f.u = 0))
theorem FdG.good {f : Fd} (h : FdG f) : GoodF f := by
  obtain ⟨h1, h2, h3, ⟨h4, h5, h6, h7⟩ | ⟨h4, h5⟩⟩ := h
  · exact ⟨h1, by omega, .inl ⟨h4, h5⟩⟩
  · exact ⟨h1, by omega, .inr (.inr (.inr ⟨h4, h5⟩))⟩
theorem FdG.ok {f : Fd} (h : FdG f) : FdOk f := by
  obtain ⟨h1, h2, h3, ⟨h4, h5, h6, h7⟩ | ⟨h4, h5⟩⟩ := h
  · exact ⟨by omega, by omega, by omega, by omega, h6, by unfold B64; omega, by omega⟩
  · exact ⟨by omega, by omega, by omega, by omega, by omega, by unfold B64; omega, by omega⟩
theorem bulk_le {l : List Fd} (h : ∀ f ∈ l, FdG f) : bulk l ≤ 10020 * l.length := by
  induction l with
  | nil => exact Nat.le_refl _
  | cons f l ih =>
    have h1 := (h f (List.mem_cons_self ..)).2.2.1
    have h2 := ih (fun g hg => h g (List.mem_cons_of_mem _ hg))
    simp only [bulk, List.length_cons]
    omega
theorem mwrite {w : World} {g : Nat} {l : List Fd} (h : MsgR w g l) (hg : ∀ f ∈ l, FdG f) (hl : l.length ≤ 100) : Calls Tryz.prog 21 #[.pointer (some ⟨g, 0, none⟩)] w fun e w' => e = .returned (.string (textB l)) ∧ Since w w' := by
  have hb := bulk_le hg
  have ht := text_le l
  refine (wroteR h (fun f hf => (hg f hf).ok) (by omega)).mono ?_
  rintro e w' ⟨hs, ⟨b, h1, rfl⟩ | ⟨err, h1, rfl⟩⟩
  · unfold bytE at h1
    rw [if_pos ⟨fun f hf => (hg f hf).good, by omega⟩] at h1
    cases h1
    exact ⟨rfl, hs⟩
  · unfold bytE at h1
    rw [if_pos ⟨fun f hf => (hg f hf).good, by omega⟩] at h1
    cases h1
/-- A text field, a number's. -/
abbrev tF (n : Int) (s : ByteArray) : Fd := ⟨n, 2, 0, s⟩
abbrev vF (n u : Int) : Fd := ⟨n, 0, u, ⟨#[]⟩⟩
theorem tF_ok {n : Int} {s : ByteArray} (h1 : 1 ≤ n) (h2 : n ≤ 1000) (h3 : s.size ≤ 10000) : FdG (tF n s) := ⟨h1, h2, h3, .inr ⟨rfl, rfl⟩⟩
theorem vF_ok {n u : Int} (h1 : 1 ≤ n) (h2 : n ≤ 1000) (h3 : 0 ≤ u) (h4 : u < 1000000) : FdG (vF n u) := ⟨h1, h2, Nat.zero_le _, .inl ⟨rfl, rfl, h3, h4⟩⟩
def nodeFs (o : Op1) : List Fd := List.replicate o.m (tF 1 ⟨#[120]⟩) ++ [tF 2 o.out] ++ [tF 3 ⟨#[]⟩] ++ [tF 4 o.op]
def dimsFs (x : Nat) : List Fd := [tF 1 (textB [vF 1 x])]
def typFs (x : Nat) : List Fd := [vF 1 6] ++ [tF 2 (textB (dimsFs x))]
def wholeFs (x : Nat) : List Fd := [tF 1 (textB (typFs x))]
def valFs (s : ByteArray) (x : Nat) : List Fd := [tF 1 s] ++ [tF 2 (textB (wholeFs x))]
theorem nodeFs_ok {o : Op1} (h1 : o.op.size ≤ 100) (h2 : o.out.size ≤ 100) : ∀ f ∈ nodeFs o, FdG f := fun f hf => by
  simp only [nodeFs, List.mem_append, List.mem_replicate, List.mem_singleton] at hf
  rcases hf with ((⟨-, rfl⟩ | rfl) | rfl) | rfl
  · exact tF_ok (by omega) (by omega) (by decide)
  · exact tF_ok (by omega) (by omega) (by omega)
  · exact tF_ok (by omega) (by omega) (by decide)
  · exact tF_ok (by omega) (by omega) (by omega)
theorem text_len {l : List Fd} {n : Nat} (h : bulk l ≤ n) : (textB l).size ≤ n := Nat.le_trans (text_le l) h
theorem one_len (x : Nat) : (textB [vF 1 x]).size ≤ 20 := text_len (by simp only [bulk]; exact Nat.le_refl _)
theorem dims_len (x : Nat) : (textB (dimsFs x)).size ≤ 40 := text_len (by have := one_len x; simp only [dimsFs, bulk]; omega)
theorem typ_len (x : Nat) : (textB (typFs x)).size ≤ 80 := text_len (by have := dims_len x; simp only [typFs, bulk, List.cons_append, List.nil_append]; have : (⟨#[]⟩ : ByteArray).size = 0 := rfl; omega)
theorem whole_len (x : Nat) : (textB (wholeFs x)).size ≤ 100 := text_len (by have := typ_len x; simp only [wholeFs, bulk]; omega)
theorem val_len {s : ByteArray} (h : s.size ≤ 100) (x : Nat) : (textB (valFs s x)).size ≤ 240 := text_len (by have := whole_len x; simp only [valFs, bulk, List.cons_append, List.nil_append]; omega)
theorem one_ok {x : Nat} (h : x ≤ 30) : ∀ f ∈ [vF 1 (x : Int)], FdG f := fun f hf => by
  obtain rfl := List.mem_singleton.1 hf
  exact vF_ok (by omega) (by omega) (by omega) (by omega)
theorem dims_ok (x : Nat) : ∀ f ∈ dimsFs x, FdG f := fun f hf => by
  obtain rfl := List.mem_singleton.1 hf
  exact tF_ok (by omega) (by omega) (by have := one_len x; omega)
theorem typ_ok (x : Nat) : ∀ f ∈ typFs x, FdG f := fun f hf => by
  simp only [typFs, List.mem_append, List.mem_singleton] at hf
  rcases hf with rfl | rfl
  · exact vF_ok (by omega) (by omega) (by omega) (by omega)
  · exact tF_ok (by omega) (by omega) (by have := dims_len x; omega)
theorem whole_ok (x : Nat) : ∀ f ∈ wholeFs x, FdG f := fun f hf => by
  obtain rfl := List.mem_singleton.1 hf
  exact tF_ok (by omega) (by omega) (by have := typ_len x; omega)
theorem val_ok {s : ByteArray} (h : s.size ≤ 100) (x : Nat) : ∀ f ∈ valFs s x, FdG f := fun f hf => by
  simp only [valFs, List.mem_append, List.mem_singleton] at hf
  rcases hf with rfl | rfl
  · exact tF_ok (by omega) (by omega) (by omega)
  · exact tF_ok (by omega) (by omega) (by have := whole_len x; omega)
theorem node_len {o : Op1} (h1 : o.op.size ≤ 100) (h2 : o.out.size ≤ 100) (h3 : o.m ≤ 2) : (textB (nodeFs o)).size ≤ 400 := by
  refine text_len ?_
  rcases (show o.m = 0 ∨ o.m = 1 ∨ o.m = 2 by omega) with e | e | e
  all_goals
    simp only [nodeFs, e, List.replicate, bulk, List.cons_append, List.nil_append]
    have : (⟨#[]⟩ : ByteArray).size = 0 := rfl
    have : (⟨#[120]⟩ : ByteArray).size = 1 := rfl
    omega
theorem u64_small {x : Int} (h1 : 0 ≤ x) (h2 : x < 1000000) : IntKind.u64.wrap x = x := by
  rw [IntKind.wrap_u64]
  omega
set_option maxHeartbeats 3200000 in
theorem wnode17 (o : Op1) (A : Option Addr) (c : Nat) (w : World) (h : Xs w A o.m) (hm : o.m ≤ 2) (h1 : o.op.size ≤ 100) (h2 : o.out.size ≤ 100) :
    Calls Tryz.prog 17 #[.agg #[.string o.op, .string ⟨#[]⟩, .slice A o.m c, .string o.out, .slice none 0 0]] w fun e w' => e = .returned (.string (textB (nodeFs o))) ∧ Since w w' := by
  obtain ⟨b, off, rfl, hb, hc⟩ := h
  have HC := Lib.hid hc
  clear hc
  go_enter Tryz.func17, Tryz.ntmps17
  go_wp2_with fail
  refine newX2 (F := fun W => Code.wp _ _ _ _ W) ?_
  intro w2 hx
  have z2 : w.heap.size + 2 ≤ w2.heap.size := hx.size
  obtain ⟨r0, r1, r2, r3, r4, -⟩ := cells5 (hx.b0 rfl)
  have HX := Lib.hid hx
  have HM := Lib.hid (Msg.start (hx.b1 rfl))
  clear hx
  go_wp2_with fail
  clear r0 r1 r2 r3 r4
  go_loopw [5, 13] (fun _ i wr => ∃ j : Nat, j ≤ o.m ∧ i = .int .i64 j ∧ Msg w2 (w.heap.size + 1) wr (List.replicate j (tF 1 ⟨#[120]⟩))) (fun _ i _ => o.m - (intOf i).toNat)
  case atStart => exact ⟨0, Nat.zero_le _, rfl, HM.out⟩
  case round =>
    obtain ⟨j, hj, rfl, hg⟩ := hrel
    by_cases hlt : j < o.m
    · have c0 := (World.cell?_of_block (a := ⟨b, off + j, none⟩) (hg.cell (k := b) (by omega) (by omega))).trans ((HX.out.below.cell (p := ⟨b, off + j, none⟩) hb).trans (HC.out j hlt))
      have hji : (j : Int) < o.m := by omega
      have HT := mtext hg (by rw [List.length_replicate]; omega) 1 ⟨#[120]⟩
      clear hg
      go_wp2_with fail
      refine HT.mono ?_
      rintro e w3 ⟨rfl, hg3⟩
      have HG3 := Lib.hid (show Msg w2 (w.heap.size + 1) w3 (List.replicate (j + 1) (tF 1 ⟨#[120]⟩)) from by rw [List.replicate_succ']; exact hg3)
      clear hg3 HT
      go_wp2_with fail
      exact ⟨⟨j + 1, by omega, by go_num, HG3.out⟩, by simp [intOf]; omega⟩
    · obtain rfl : j = o.m := by omega
      have row : ∀ W l, Msg w2 (w.heap.size + 1) W l → W.heap[w.heap.size]? = some (.cells #[.string o.op, .string ⟨#[]⟩, .slice (some ⟨b, off, none⟩) o.m c, .string o.out, .slice none 0 0] 37 (0, 0)) := fun _ _ h => (h.cell (by omega) (by omega)).trans (HX.out.b0 rfl)
      have HROW := Lib.hid row
      obtain ⟨r0, r1, r2, r3, r4, -⟩ := cells5 (row _ _ hg)
      have HT := mtext hg (by rw [List.length_replicate]; omega) 2 o.out
      clear row hg
      go_wp2_with fail
      refine HT.mono ?_
      rintro e w3 ⟨rfl, hg3⟩
      clear HT r0 r1 r2 r3 r4
      obtain ⟨r0, r1, r2, r3, r4, -⟩ := cells5 (HROW.out _ _ hg3)
      have HT := mtext hg3 (by rw [List.length_append, List.length_replicate, List.length_singleton]; omega) 3 ⟨#[]⟩
      clear hg3
      go_wp2_with fail
      refine HT.mono ?_
      rintro e w4 ⟨rfl, hg4⟩
      clear HT r0 r1 r2 r3 r4
      obtain ⟨r0, r1, r2, r3, r4, -⟩ := cells5 (HROW.out _ _ hg4)
      have HT := mtext hg4 (by rw [List.length_append, List.length_append, List.length_replicate, List.length_singleton, List.length_singleton]; omega) 4 o.op
      clear hg4
      go_wp2_with fail
      refine HT.mono ?_
      rintro e w5 ⟨rfl, hg5⟩
      clear HT r0 r1 r2 r3 r4
      obtain ⟨r0, r1, r2, r3, r4, -⟩ := cells5 (HROW.out _ _ hg5)
      have HW := mwrite (l := nodeFs o) hg5.reads (nodeFs_ok h1 h2) (by simp only [nodeFs, List.length_append, List.length_replicate, List.length_singleton]; omega)
      have HS := Lib.hid (show Since w w5 from HX.out.below.trans (hg5.only.below (by omega) (by omega)))
      clear hg5
      go_wp2_with fail
      refine wp_loop_rounds 1 ?_
      rw [rounds_succ]
      go_wp2_with fail
      refine HW.mono ?_
      rintro e w6 ⟨rfl, hs6⟩
      have HS6 := Lib.hid (HS.out.trans hs6)
      clear hs6 HW
      go_wp2_with fail
      go_ret
      exact ⟨rfl, HS6.out⟩
set_option maxHeartbeats 3200000 in
theorem wvalue19 (s : ByteArray) (A : Option Addr) (c x : Nat) (w : World) (h : One w A x) (hx : x ≤ 30) (hs : s.size ≤ 100) :
    Calls Tryz.prog 19 #[.agg #[.string s, .int .i64 6, .slice A 1 c]] w fun e w' => e = .returned (.string (textB (valFs s x))) ∧ Since w w' := by
  obtain ⟨b, off, rfl, hb, hc⟩ := h
  have hux : IntKind.u64.wrap (x : Int) = x := u64_small (by omega) (by omega)
  have hu6 : IntKind.u64.wrap (6 : Int) = 6 := u64_small (by omega) (by omega)
  have HUX := Lib.hid hux
  have HU6 := Lib.hid hu6
  clear hux hu6
  go_enter Tryz.func19, Tryz.ntmps19
  go_wp2_with fail
  refine newX2 (F := fun W => Code.wp _ _ _ _ W) ?_
  intro w2 h2
  have z2 : w.heap.size + 2 ≤ w2.heap.size := h2.size
  obtain ⟨r0, r1, r2, -⟩ := cells3 (h2.b0 rfl)
  have c0 := (h2.below.cell (p := ⟨b, off, none⟩) hb).trans hc
  have HX2 := Lib.hid h2
  clear h2 hc
  go_wp2_with fail
  clear r0 r1 r2
  refine wp_loop_rounds 2 ?_
  rw [rounds_succ]
  go_wp2_with fail
  refine newX (F := fun W => Calls _ _ _ W _) ?_
  intro w3 h3
  have z3 : w2.heap.size + 1 ≤ w3.heap.size := h3.size
  have HX3 := Lib.hid h3
  have HT := mvarint (Msg.start (h3.b0 rfl)) (Nat.zero_le _) 1 (x : Int)
  rw [HUX.out] at HT
  clear h3
  refine HT.mono ?_
  rintro e w4 ⟨rfl, hg4⟩
  have HM1 := Lib.hid (((Msg.start (HX2.out.b1 rfl)).below HX3.out.below).over hg4 (Nat.le_refl _) ⟨_, HX3.out.b0 rfl⟩)
  have HW := mwrite (l := [vF 1 (x : Int)]) hg4.reads (one_ok hx) (by simp)
  clear hg4 HT
  go_wp2_with fail
  refine HW.mono ?_
  rintro e w5 ⟨rfl, hs5⟩
  have HT := mtext (HM1.out.below hs5) (Nat.zero_le _) 1 (textB [vF 1 (x : Int)])
  clear hs5 HW
  go_wp2_with fail
  refine HT.mono ?_
  rintro e w6 ⟨rfl, hg6⟩
  have HM6 := Lib.hid (show Msg w2 (w.heap.size + 1) w6 (dimsFs x) from hg6)
  have z26 := hg6.only.size
  obtain ⟨p0, p1, p2, -⟩ := cells3 ((hg6.cell (k := w.heap.size) (by omega) (by omega)).trans (HX2.out.b0 rfl))
  have y0 : w.heap.size < w6.heap.size := by omega
  have y1 : w.heap.size < w6.heap.size + 1 := by omega
  have y2 : w.heap.size < w6.heap.size + 1 + 1 := by omega
  clear hg6 HT
  go_wp2_with fail
  rw [rounds_succ]
  go_wp2_with fail
  refine newX3 (F := fun W => Calls _ _ _ W _) ?_
  intro w7 h7
  have z7 : w6.heap.size + 3 ≤ w7.heap.size := h7.size
  have hbox : w7.heap[w.heap.size]? = some (.cells #[.string s, .int .i64 6, .slice (some ⟨b, off, none⟩) 1 c] 28 (0, 0)) := Since.kp h7.below ((HM6.out.cell (by omega) (by omega)).trans (HX2.out.b0 rfl))
  have HX7 := Lib.hid h7
  have HBOX := Lib.hid hbox
  have HT := mvarint (Msg.start (h7.b0 rfl)) (Nat.zero_le _) 1 6
  rw [HU6.out] at HT
  clear h7 hbox p0 p1 p2
  refine HT.mono ?_
  rintro e w8 ⟨rfl, hg8⟩
  have HR8 := Lib.hid ((HM6.out.below HX7.out.below).reads.over hg8.only (by omega) ⟨_, HX7.out.b0 rfl⟩)
  have HM8 := Lib.hid (show Msg w7 w6.heap.size w8 [vF 1 6] from hg8)
  have HW := mwrite HR8.out (dims_ok x) (by simp [dimsFs])
  clear hg8 HT
  go_wp2_with fail
  refine HW.mono ?_
  rintro e w9 ⟨rfl, hs9⟩
  have HT := mtext (HM8.out.below hs9) (by simp) 2 (textB (dimsFs x))
  clear hs9 HW
  go_wp2_with fail
  refine HT.mono ?_
  rintro e w10 ⟨rfl, hg10⟩
  have HM10 := Lib.hid (show Msg w7 w6.heap.size w10 (typFs x) from hg10)
  have HW := mwrite HM10.out.reads (typ_ok x) (by simp [typFs])
  clear hg10 HT
  go_wp2_with fail
  refine HW.mono ?_
  rintro e w11 ⟨rfl, hs11⟩
  have HS11 := Lib.hid hs11
  have z10 := HM10.out.only.size
  have z11 : w7.heap.size ≤ w11.heap.size := Nat.le_trans HM10.out.only.size hs11.size
  have HK := Lib.hid (show ∀ k, k < w7.heap.size → k ≠ w6.heap.size → w11.heap[k]? = w7.heap[k]? from fun k h1 h2 => (hs11.block k (Nat.lt_of_lt_of_le h1 HM10.out.only.size)).trans (HM10.out.cell h1 h2))
  have HT := mtext (Msg.start (w0 := w11) (g := w6.heap.size + 1) ((HK.out _ (by omega) (by omega)).trans (HX7.out.b1 rfl))) (Nat.zero_le _) 1 (textB (typFs x))
  clear hs11 HW
  go_wp2_with fail
  refine HT.mono ?_
  rintro e w12 ⟨rfl, hg12⟩
  have HM12 := Lib.hid (show Msg w11 (w6.heap.size + 1) w12 (wholeFs x) from hg12)
  obtain ⟨r0, r1, r2, -⟩ := cells3 ((hg12.cell (k := w.heap.size) (by omega) (by omega)).trans ((HK.out _ (by omega) (by omega)).trans HBOX.out))
  have hn5 : w12.heap[w6.heap.size + 1 + 1]? = some (.cells #[.slice none 0 0] 67 (0, 0)) := (hg12.cell (by omega) (by omega)).trans ((HK.out _ (by omega) (by omega)).trans (HX7.out.b2 rfl))
  have HT := mtext (Msg.start hn5) (Nat.zero_le _) 1 s
  have HN5 := Lib.hid hn5
  clear hg12 hn5
  go_wp2_with fail
  refine HT.mono ?_
  rintro e w13 ⟨rfl, hg13⟩
  have HM13 := Lib.hid (show Msg w12 (w6.heap.size + 1 + 1) w13 [tF 1 s] from hg13)
  have HW := mwrite (HM12.out.reads.over hg13.only (by omega) ⟨_, HN5.out⟩) (whole_ok x) (by simp [wholeFs])
  clear hg13 HT r0 r1 r2
  go_wp2_with fail
  refine HW.mono ?_
  rintro e w14 ⟨rfl, hs14⟩
  have HT := mtext (HM13.out.below hs14) (by simp) 2 (textB (wholeFs x))
  have z14 : w12.heap.size ≤ w14.heap.size := Nat.le_trans HM13.out.only.size hs14.size
  clear hs14 HW
  go_wp2_with fail
  refine HT.mono ?_
  rintro e w15 ⟨rfl, hg15⟩
  have HM15 := Lib.hid (show Msg w12 (w6.heap.size + 1 + 1) w15 (valFs s x) from hg15)
  have HW := mwrite HM15.out.reads (val_ok hs x) (by simp [valFs])
  clear hg15 HT
  go_wp2_with fail
  refine HW.mono ?_
  rintro e w16 ⟨rfl, hs16⟩
  have HS16 := Lib.hid hs16
  clear hs16 HW
  go_wp2_with fail
  go_ret
  have b6 : Below w.heap.size w w6 := Below.trans HX2.out.below (HM6.out.only.below (by omega) (by omega))
  have b10 := (b6.trans (Below.mono HX7.out.below (by omega))).trans (HM10.out.only.below (by omega) (by omega))
  have b12 := (b10.trans (Below.mono HS11.out (by omega))).trans (HM12.out.only.below (by omega) (by omega))
  have z12 := HM12.out.only.size
  have z15 := HM15.out.only.size
  exact ⟨rfl, (b12.trans (HM15.out.only.below (by omega) (by omega))).trans (Below.mono HS16.out (by omega))⟩
end Go.Proofs.YtbilddeepnnogaaGreatDoor
end
/- Layer 5: Encode. -/
section
set_option linter.unusedVariables false
set_option maxRecDepth 100000
namespace Go.Proofs.YtbilddeepnnogaaGreatDoor
open Go.RowKit Go.Shelf

theorem ecatch_idle (p q : Addr) (w : World) :
    CallsD Tryz.prog 13 #[.pointer (some p), .pointer (some q)] .returning w fun e u' w' => e = .returned (.tuple #[]) ∧ u' = .returning ∧ w' = w := by
  refine callsD_of_wpS Tryz.func13 rfl fun c₀ cs hu => ?_
  apply wpS_seq
  apply wpS_region
  simp [wpOpsS, go_sem, recoverD, hu, Tryz.ntmps13, Exit.thenS]
  rw [show #[Value.pointer (some p), Value.pointer (some q)] ++ ((Array.replicate 15 undef).setIfInBounds 3 Value.nilIface).setIfInBounds 0 Value.nilIface = #[Value.pointer (some p), Value.pointer (some q), Value.nilIface, undef, undef, Value.nilIface, undef, undef, undef, undef, undef, undef, undef, undef, undef, undef, undef] from rfl]
  refine wpS_of_wp ?_
  go_wp2
  cases c₀
  simp_all [bodyPostS, results, Tryz.results13]
abbrev encDefers (w : World) : List Deferred := [{ target := .fn (.func 13) #[.pointer (some ⟨w.heap.size + 1, 0, none⟩), .pointer (some ⟨w.heap.size + 1 + 1, 0, none⟩)], args := #[] }]
def EncS (b : ByteArray) (w : World) (e : Ending) (w' : World) : Prop := e = .returned (.tuple #[.string b, .int .i64 0]) ∧ Since w w'
theorem enc_done {w w1 : World} {b : ByteArray} (hb : Since w w1) (hp : w1.heap[w.heap.size + 1]? = some (.cells #[.string b] 9 (0, 0))) (hq : w1.heap[w.heap.size + 1 + 1]? = some (.cells #[.int .i64 0] 39 (0, 0)))
    (a : Act) (h2 : a.tmps.getD 2 undef = .pointer (some ⟨w.heap.size + 1, 0, none⟩)) (h3 : a.tmps.getD 3 undef = .pointer (some ⟨w.heap.size + 1 + 1, 0, none⟩)) (hd : a.defers = encDefers w) :
    bodyPostD Tryz.prog Tryz.f9 (EncS b w) .ret a w1 := by
  show Leaves Tryz.prog Tryz.f9 a.tmps (EncS b w) a.defers .returning w1
  rw [hd]
  refine leaves_cons (f := 13) (args := #[.pointer (some ⟨w.heap.size + 1, 0, none⟩), .pointer (some ⟨w.heap.size + 1 + 1, 0, none⟩)]) (by simp) (by simp [go_sem]) ?_
  refine (ecatch_idle _ _ _).mono ?_
  rintro e u' w'' ⟨rfl, rfl, rfl⟩
  have p0 : w''.cell? ⟨w.heap.size + 1, 0, none⟩ = some (.string b) := cell_of_row _ _ 0 _ 9 (0, 0) hp
  have q0 : w''.cell? ⟨w.heap.size + 1 + 1, 0, none⟩ = some (.int .i64 0) := cell_of_row _ _ 0 _ 39 (0, 0) hq
  clear hp hq
  rw [Array.getD_eq_getD_getElem?] at h2 h3
  simp [Leaves, settle, results, Tryz.results9, go_sem, p0, q0, h2, h3]
  exact ⟨rfl, hb⟩
def nodeF (o : Op1) : Fd := tF 1 (textB (nodeFs o))
def outF (x : Nat) (o : Op1) : Fd := tF 12 (textB (valFs o.out x))
def graphFs (l : List Op1) (x : Nat) : List Fd := ((l.map nodeF ++ [tF 2 ⟨#[]⟩]) ++ [tF 11 (textB (valFs ⟨#[120]⟩ x))]) ++ l.map (outF x)
def opsetFs : List Fd := [vF 2 13]
def modelFs (l : List Op1) (x : Nat) : List Fd := ([vF 1 8] ++ [tF 7 (textB (graphFs l x))]) ++ [tF 8 (textB opsetFs)]
theorem nodeF_ok {o : Op1} (h : o.op.size ≤ 100 ∧ o.out.size ≤ 100) (hm : o.m ≤ 2) : FdG (nodeF o) := tF_ok (by omega) (by omega) (by have := node_len h.1 h.2 hm; omega)
theorem outF_ok {o : Op1} (h : o.out.size ≤ 100) (x : Nat) : FdG (outF x o) := tF_ok (by omega) (by omega) (by have := val_len h x; omega)
theorem bulk_map {f : Op1 → Fd} {c : Nat} : ∀ {l : List Op1}, (∀ o ∈ l, (f o).b.size ≤ c) → bulk (l.map f) ≤ (c + 20) * l.length
  | [], _ => Nat.le_refl _
  | o :: l, h => by
    have h1 := h o (List.mem_cons_self ..)
    have h2 := bulk_map (l := l) (fun g hg => h g (List.mem_cons_of_mem _ hg))
    simp only [List.map_cons, bulk, List.length_cons, Nat.mul_add]
    omega
theorem bulk_app (l m : List Fd) : bulk (l ++ m) = bulk l + bulk m := by
  induction l with
  | nil => simp [bulk]
  | cons f l ih => simp only [List.cons_append, bulk, ih]; omega
theorem graph_ok {l : List Op1} {x : Nat} (h : ∀ o ∈ l, (o.op.size ≤ 100 ∧ o.out.size ≤ 100) ∧ o.m ≤ 2) : ∀ f ∈ graphFs l x, FdG f := fun f hf => by
  simp only [graphFs, List.mem_append, List.mem_map, List.mem_singleton] at hf
  rcases hf with ((⟨o, ho, rfl⟩ | rfl) | rfl) | ⟨o, ho, rfl⟩
  · exact nodeF_ok (h o ho).1 (h o ho).2
  · exact tF_ok (by omega) (by omega) (by decide)
  · exact tF_ok (by omega) (by omega) (by have := val_len (s := ⟨#[120]⟩) (by decide) x; omega)
  · exact outF_ok (h o ho).1.2 x
theorem graph_len {l : List Op1} {x : Nat} (h : ∀ o ∈ l, (o.op.size ≤ 100 ∧ o.out.size ≤ 100) ∧ o.m ≤ 2) (h5 : l.length ≤ 5) : (textB (graphFs l x)).size ≤ 10000 := by
  refine text_len ?_
  have b1 := bulk_map (f := nodeF) (c := 400) (l := l) (fun o ho => node_len (h o ho).1.1 (h o ho).1.2 (h o ho).2)
  have b2 := bulk_map (f := outF x) (c := 240) (l := l) (fun o ho => val_len (h o ho).1.2 x)
  have b3 := val_len (s := ⟨#[120]⟩) (by decide) x
  have b0 : (⟨#[]⟩ : ByteArray).size = 0 := rfl
  simp only [graphFs, bulk_app, bulk]
  omega
theorem opset_ok : ∀ f ∈ opsetFs, FdG f := fun f hf => by
  obtain rfl := List.mem_singleton.1 hf
  exact vF_ok (by omega) (by omega) (by omega) (by omega)
theorem opset_len : (textB opsetFs).size ≤ 20 := text_len (by simp only [opsetFs, bulk]; exact Nat.le_refl _)
theorem model_ok {l : List Op1} {x : Nat} (h : ∀ o ∈ l, (o.op.size ≤ 100 ∧ o.out.size ≤ 100) ∧ o.m ≤ 2) (h5 : l.length ≤ 5) : ∀ f ∈ modelFs l x, FdG f := fun f hf => by
  simp only [modelFs, List.mem_append, List.mem_singleton] at hf
  rcases hf with (rfl | rfl) | rfl
  · exact vF_ok (by omega) (by omega) (by omega) (by omega)
  · exact tF_ok (by omega) (by omega) (graph_len h h5)
  · exact tF_ok (by omega) (by omega) (by have := opset_len; omega)
end Go.Proofs.YtbilddeepnnogaaGreatDoor
end
/- Layer 5: Encode, its walk. -/
section
set_option linter.unusedVariables false
set_option maxRecDepth 100000
namespace Go.Proofs.YtbilddeepnnogaaGreatDoor
open Go.RowKit Go.Shelf

/-- A list's fields so far, and one more. -/
theorem take_map {f : Op1 → Fd} {l : List Op1} {k : Nat} {o : Op1} (h : l[k]? = some o) : (l.take k).map f ++ [f o] = (l.take (k + 1)).map f := by
  rw [List.take_add_one, h, Option.toList_some, List.map_append]
  rfl
set_option maxHeartbeats 6400000 in
theorem encode_w (An Ai Ao : Option Addr) (cn ci co : Nat) (l : List Op1) (x : Nat) (w : World) (h : FlatG w An Ai Ao l x) (hn : Nam w An l.length) (hsz : ∀ o ∈ l, o.op.size ≤ 100 ∧ o.out.size ≤ 100) :
    Calls Tryz.prog 9 #[.agg #[.string ⟨#[]⟩, .slice An l.length cn, .slice Ai 1 ci, .slice Ao l.length co, .slice none 0 0]] w (EncS (textB (modelFs l x)) w) := by
  have h5 := h.ok.most
  have hx30 : x ≤ 30 := by have := h.hi; omega
  have hmf : ∀ (fn : Fn) (first cap : Array Value) (w : World), (Instr.makeFunc fn first cap).run Tryz.prog w = .ok (.func fn first cap) w := fun _ _ _ _ => rfl
  have hall : ∀ o ∈ l, (o.op.size ≤ 100 ∧ o.out.size ≤ 100) ∧ o.m ≤ 2 := fun o ho => ⟨hsz o ho, by have := (h.ok.ops o ho).cases; omega⟩
  have HALL := Lib.hid hall
  have HT := Lib.hid (fun W (hW : Since w W) => told15 An Ai Ao cn ci co l x W (h.below hW) (hn.below hW) hsz)
  have H := Lib.hid h
  have HN := Lib.hid hn
  clear h hn hsz hall
  go_enter_defers Tryz.func9, Tryz.ntmps9
  go_wp2_with fail
  refine newX3 (F := fun W => Calls _ _ _ W _) ?_
  intro w0 h0
  have HX0 := Lib.hid h0
  clear h0
  refine (HT.out w0 HX0.out.below).mono ?_
  rintro e w1 ⟨rfl, hs1⟩
  have HX1 := Lib.hid (HX0.out.all hs1)
  clear hs1
  go_wp2_with fail
  refine (must_yes _ _).mono ?_
  rintro e w2 ⟨rfl, rfl⟩
  obtain ⟨r0, r1, r2, r3, r4, -⟩ := cells5 (HX1.out.b0 rfl)
  have z1 : w.heap.size + 3 ≤ w1.heap.size := HX1.out.size
  have y0 : w.heap.size < w1.heap.size := by omega
  clear hmf
  go_wp2_with fail
  refine newX (F := fun W => Code.wp _ _ _ _ W) ?_
  intro w3 h3
  have HX3 := Lib.hid (HX1.out.all h3.below)
  have z3 : w1.heap.size + 1 ≤ w3.heap.size := h3.size
  have HM3 := Lib.hid (Msg.start (h3.b0 rfl))
  have HROW := Lib.hid (show ∀ W m, Msg w3 w1.heap.size W m → Fx w W [some (grow An Ai Ao cn ci co l.length), some (.cells #[.string ⟨#[]⟩] 9), some (.cells #[.int .i64 0] 39)] from fun W m hm => HX3.out.later (hm.only.below (by exact z1) (by show w.heap.size + 3 ≤ w3.heap.size; omega)))
  clear h3 r0 r1 r2 r3 r4
  go_loopw [24] (fun i wr => ∃ k : Nat, k ≤ l.length ∧ i = .int .i64 k ∧ Msg w3 w1.heap.size wr ((l.take k).map nodeF)) (fun i _ => l.length - (intOf i).toNat)
  case atStart => exact ⟨0, Nat.zero_le _, rfl, HM3.out⟩
  case round =>
    obtain ⟨k, hk, rfl, hm⟩ := hrel
    by_cases hlt : k < l.length
    · obtain ⟨o, ho⟩ : ∃ o, l[k]? = some o := ⟨_, List.getElem?_eq_getElem hlt⟩
      have hfx := HROW.out _ _ hm
      obtain ⟨b, off, A', c, rfl, hb, q0, q1, q2, q3, q4, q5, hm2⟩ := (H.out.below hfx.below).node (HN.out.below hfx.below) ho
      have hki : (k : Int) < l.length := by omega
      have hz := (HALL.out o (List.mem_of_getElem? ho)).1
      have HMM := Lib.hid hm
      have HO := Lib.hid ho
      have HQ5 := Lib.hid q5
      have HZ := Lib.hid hz
      clear hm ho hfx q5 hz
      go_wp2_with fail
      refine newX (F := fun W => Calls _ _ _ W _) ?_
      intro w4 h4
      have hm4 := HMM.out.below h4.below
      have HM4 := Lib.hid hm4
      have hW := wnode17 o A' c w4 (HQ5.out.below h4.below) hm2 HZ.out.1 HZ.out.2
      clear h4 hm4
      refine hW.mono ?_
      rintro e w5 ⟨rfl, hs5⟩
      have HT := mtext (HM4.out.below hs5) (by rw [List.length_map, List.length_take]; omega) 1 (textB (nodeFs o))
      clear hs5 hW q0 q1 q2 q3 q4
      go_wp2_with fail
      refine HT.mono ?_
      rintro e w6 ⟨rfl, hm6⟩
      have HM6 := Lib.hid (show Msg w3 w1.heap.size w6 ((l.take (k + 1)).map nodeF) from by rw [← take_map HO.out]; exact hm6)
      clear hm6 HT
      go_wp2_with fail
      exact ⟨⟨k + 1, by omega, by go_num, HM6.out⟩, by simp [intOf]; omega⟩
    · obtain rfl : k = l.length := by omega
      rw [List.take_length] at hm
      obtain ⟨r0, r1, r2, r3, r4, -⟩ := cells5 ((HROW.out _ _ hm).b0 rfl)
      have HT := mtext hm (by rw [List.length_map]; omega) 2 ⟨#[]⟩
      clear hm
      go_wp2_with fail
      refine HT.mono ?_
      rintro e w4 ⟨rfl, hm4⟩
      clear r0 r1 r2 r3 r4 HT
      obtain ⟨r0, r1, r2, r3, r4, -⟩ := cells5 ((HROW.out _ _ hm4).b0 rfl)
      have HM4 := Lib.hid hm4
      clear hm4
      go_wp2_with fail
      refine wp_loop_rounds 1 ?_
      rw [rounds_succ]
      go_wp2_with fail
      refine wp_loop_rounds 2 ?_
      rw [rounds_succ]
      obtain ⟨bi, oi, ei, hbi, hci⟩ := (H.out.below (HROW.out _ _ HM4.out).below).ins
      subst ei
      obtain ⟨Ad, cd, v0, v1, v2, v3⟩ := hci 0 _ rfl
      simp only [Nat.zero_mul, Nat.add_zero] at v0 v1 v2
      have HV3 := Lib.hid v3
      clear hci v3 r0 r1 r2 r3 r4
      go_wp2_with fail
      refine newX (F := fun W => Calls _ _ _ W _) ?_
      intro w5 h5
      have HM5 := Lib.hid (HM4.out.below h5.below)
      have hW := wvalue19 ⟨#[120]⟩ Ad cd x w5 (HV3.out.below h5.below) hx30 (by decide)
      clear h5
      refine hW.mono ?_
      rintro e w6 ⟨rfl, hs6⟩
      have HT := mtext (HM5.out.below hs6) (by rw [List.length_append, List.length_map, List.length_singleton]; omega) 11 (textB (valFs ⟨#[120]⟩ x))
      clear hs6 hW v0 v1 v2
      go_wp2_with fail
      refine HT.mono ?_
      rintro e w7 ⟨rfl, hm7⟩
      obtain ⟨r0, r1, r2, r3, r4, -⟩ := cells5 ((HROW.out _ _ hm7).b0 rfl)
      have HM7 := Lib.hid hm7
      clear hm7 HT
      go_wp2_with fail
      rw [rounds_succ]
      go_wp2_with fail
      clear r0 r1 r2 r3 r4
      go_loopw [67] (fun i wr => ∃ k : Nat, k ≤ l.length ∧ i = .int .i64 k ∧ Msg w3 w1.heap.size wr (((l.map nodeF ++ [tF 2 ⟨#[]⟩]) ++ [tF 11 (textB (valFs ⟨#[120]⟩ x))]) ++ (l.take k).map (outF x))) (fun i _ => l.length - (intOf i).toNat)
      case atStart => exact ⟨0, Nat.zero_le _, rfl, by simpa using HM7.out⟩
      case round =>
        obtain ⟨k, hk, rfl, hm⟩ := hrel
        by_cases hlt : k < l.length
        · obtain ⟨o, ho⟩ : ∃ o, l[k]? = some o := ⟨_, List.getElem?_eq_getElem hlt⟩
          obtain ⟨bo, oo, eo, hbo, hco⟩ := (H.out.below (HROW.out _ _ hm).below).outs
          subst eo
          obtain ⟨Ad, cd, v0, v1, v2, v3⟩ := hco k o.out (by rw [List.getElem?_map, ho]; rfl)
          have hki : (k : Int) < l.length := by omega
          have HV3 := Lib.hid v3
          have HO := Lib.hid ho
          have HM := Lib.hid hm
          clear hco v3 hm ho
          go_wp2_with fail
          refine newX (F := fun W => Calls _ _ _ W _) ?_
          intro w8 h8
          have HM8 := Lib.hid (HM.out.below h8.below)
          have hW := wvalue19 o.out Ad cd x w8 (HV3.out.below h8.below) hx30 (HALL.out o (List.mem_of_getElem? HO.out)).1.2
          clear h8
          refine hW.mono ?_
          rintro e w9 ⟨rfl, hs9⟩
          have HT := mtext (HM8.out.below hs9) (by simp only [List.length_append, List.length_map, List.length_take, List.length_singleton]; omega) 12 (textB (valFs o.out x))
          clear hs9 hW v0 v1 v2
          go_wp2_with fail
          refine HT.mono ?_
          rintro e w10 ⟨rfl, hm10⟩
          have HM10 := Lib.hid (show Msg w3 w1.heap.size w10 (((l.map nodeF ++ [tF 2 ⟨#[]⟩]) ++ [tF 11 (textB (valFs ⟨#[120]⟩ x))]) ++ (l.take (k + 1)).map (outF x)) from by rw [← take_map HO.out, ← List.append_assoc]; exact hm10)
          clear hm10 HT
          go_wp2_with fail
          exact ⟨⟨k + 1, by omega, by go_num, HM10.out⟩, by simp [intOf]; omega⟩
        · obtain rfl : k = l.length := by omega
          rw [List.take_length] at hm
          have HM := Lib.hid (show Msg w3 w1.heap.size wr (graphFs l x) from hm)
          have hfr := HROW.out _ _ hm
          have hu13 : IntKind.u64.wrap (13 : Int) = 13 := u64_small (by omega) (by omega)
          have hu8 : IntKind.u64.wrap (8 : Int) = 8 := u64_small (by omega) (by omega)
          have HU := Lib.hid (And.intro hu13 hu8)
          have HFR := Lib.hid hfr
          have hz := hm.only.size
          clear hm hfr hu13 hu8
          go_wp2_with fail
          refine newX2 (F := fun W => Calls _ _ _ W _) ?_
          intro w4 h4
          have z4 : wr.heap.size + 2 ≤ w4.heap.size := h4.size
          have HX4 := Lib.hid h4
          have HT := mvarint (Msg.start (h4.b0 rfl)) (Nat.zero_le _) 2 13
          rw [HU.out.1] at HT
          have HG4 := Lib.hid (HM.out.below h4.below).reads
          clear h4
          refine HT.mono ?_
          rintro e w5 ⟨rfl, hm5⟩
          have HO5 := Lib.hid (show Msg w4 wr.heap.size w5 opsetFs from hm5)
          have HG5 := Lib.hid (HG4.out.over hm5.only (by omega) ⟨_, HX4.out.b0 rfl⟩)
          have hmo : w5.heap[wr.heap.size + 1]? = some (.cells #[.slice none 0 0] 67 (0, 0)) := (hm5.cell (by omega) (by omega)).trans (HX4.out.b1 rfl)
          have z5 := hm5.only.size
          have HT := mvarint (Msg.start hmo) (Nat.zero_le _) 1 8
          rw [HU.out.2] at HT
          have HMO := Lib.hid hmo
          clear hm5 hmo
          go_wp2_with fail
          refine HT.mono ?_
          rintro e w6 ⟨rfl, hm6⟩
          have HM6 := Lib.hid hm6
          have hgl := graph_len (x := x) HALL.out h5
          have HW := mwrite (HG5.out.over hm6.only (by omega) ⟨_, HMO.out⟩) (graph_ok HALL.out) (by simp only [graphFs, List.length_append, List.length_map, List.length_singleton]; omega)
          clear hm6 HT
          go_wp2_with fail
          refine HW.mono ?_
          rintro e w7 ⟨rfl, hs7⟩
          have HT := mtext (HM6.out.below hs7) (by simp) 7 (textB (graphFs l x))
          clear hs7 HW
          go_wp2_with fail
          refine HT.mono ?_
          rintro e w8 ⟨rfl, hm8⟩
          have HM8 := Lib.hid hm8
          have HW := mwrite (HO5.out.reads.over hm8.only (by omega) ⟨_, HMO.out⟩) opset_ok (by simp [opsetFs])
          clear hm8 HT
          go_wp2_with fail
          refine HW.mono ?_
          rintro e w9 ⟨rfl, hs9⟩
          have HT := mtext (HM8.out.below hs9) (by simp) 8 (textB opsetFs)
          clear hs9 HW
          go_wp2_with fail
          refine HT.mono ?_
          rintro e w10 ⟨rfl, hm10⟩
          have HM10 := Lib.hid (show Msg w5 (wr.heap.size + 1) w10 (modelFs l x) from hm10)
          have HW := mwrite HM10.out.reads (model_ok HALL.out h5) (by simp [modelFs])
          clear hm10 HT
          go_wp2_with fail
          refine HW.mono ?_
          rintro e w11 ⟨rfl, hs11⟩
          have f5 := ((HFR.out.all HX4.out.below).later (HO5.out.only.below (B := w.heap.size + 3) (by omega) (by omega)))
          have f10 := f5.later (HM10.out.only.below (B := w.heap.size + 3) (by omega) (by omega))
          have f11 := f10.all hs11
          have p1 := cell_of_row _ _ 0 _ 9 (0, 0) (f11.b1 rfl)
          have p2 := cell_of_row _ _ 0 _ 39 (0, 0) (f11.b2 rfl)
          have k1 := frozen_row (f11.b1 rfl) 0
          have k2 := frozen_row (f11.b2 rfl) 0
          have HF := Lib.hid f11
          clear f5 f10 f11 hs11 HW
          go_wp2_with fail
          have g1 := heap_setCell_same w11 (w.heap.size + 1) 0 _ 9 (.string (textB (modelFs l x))) (HF.out.b1 rfl)
          have g2 := heap_setCell_same (w11.setCell ⟨w.heap.size + 1, 0, none⟩ (.string (textB (modelFs l x)))) (w.heap.size + 1 + 1) 0 _ 39 (.int .i64 0) ((Below.heap_setCell _ _ _ _ (by dsimp only; omega)).trans (HF.out.b2 rfl))
          refine enc_done ((HF.out.below.setCell (by show w.heap.size ≤ w.heap.size + 1; omega) _).setCell (by show w.heap.size ≤ w.heap.size + 1 + 1; omega) _) ((Below.heap_setCell _ _ _ _ (by dsimp only; omega)).trans (by simpa using g1)) (by simpa using g2) _ rfl rfl rfl
end Go.Proofs.YtbilddeepnnogaaGreatDoor
end
