import Derived.Test.YtbilddeepnnogaaGreatDoorJbm
set_option linter.unusedVariables false
set_option linter.unusedSimpArgs false
/- Pieces: the error with which a node begins, and the value that comes out. -/
section
set_option linter.unusedVariables false
set_option maxRecDepth 100000
namespace Go.Proofs.YtbilddeepnnogaaGreatDoor
open Go.RowKit Go.Shelf

/-- m tensors alike. -/
def Tns (w : World) (A : Option Addr) (m x : Nat) (ds : List Int) : Prop := ∃ b off, A = some ⟨b, off, none⟩ ∧ b < w.heap.size ∧ ∀ j, j < m → ∃ Ad cd At ct, w.cell? ⟨b, off + j * 3, none⟩ = some (.int .i64 6) ∧ w.cell? ⟨b, off + j * 3 + 1, none⟩ = some (.slice Ad 1 cd) ∧ w.cell? ⟨b, off + j * 3 + 2, none⟩ = some (.slice At x ct) ∧ TnOk w Ad At x ds
theorem Tns.since {w w' : World} {A : Option Addr} {m x : Nat} {ds : List Int} (h : Tns w A m x ds) (hs : Since w w') : Tns w' A m x ds := by
  obtain ⟨b, off, rfl, h1, h2⟩ := h
  refine ⟨b, off, rfl, Nat.lt_of_lt_of_le h1 hs.size, fun j hj => ?_⟩
  obtain ⟨Ad, cd, At, ct, q0, q1, q2, q3⟩ := h2 j hj
  exact ⟨Ad, cd, At, ct, (hs.cell (p := ⟨b, _, none⟩) h1).trans q0, (hs.cell (p := ⟨b, _, none⟩) h1).trans q1, (hs.cell (p := ⟨b, _, none⟩) h1).trans q2, q3.since hs⟩
theorem One.off {w : World} {A : Option Addr} {x : Int} {g : Nat} {cs : Array Value} {t : TypeId} {fr : Nat × Nat} (h : One w A x) (hg : w.heap[g]? = some (.cells cs t fr)) (hn : ∀ i : Nat, cs[i]? ≠ some (Value.int .i64 x)) : ∀ b off, A = some ⟨b, off, none⟩ → b ≠ g := by
  obtain ⟨b0, off0, rfl, h1, h2⟩ := h
  rintro b off e rfl
  cases e
  rw [cell_of_row _ _ off0 _ t fr hg] at h2
  exact hn _ h2
theorem byPlace_any (op : ByteArray) (m : Nat) (ho : NdOp op m) (w : World) : Calls Tryz.prog 154 #[.string op] w fun e w' => e = .returned (.bool true) ∧ w' = w := by
  rcases ho.words with rfl | rfl | rfl | rfl
  all_goals
    go_enter Tryz.func154, Tryz.ntmps154
    go_wp2_with fail
    first | (rw [Exit.noGoto_ret]) | skip
    go_ret
    exact ⟨rfl, rfl⟩
set_option maxHeartbeats 3200000 in
theorem begin153_any (op nm out : ByteArray) (A B : Option Addr) (m c d x : Nat) (ds : List Int) (w : World) (hg : Gl w) (hx : Xs w A m) (ht : Tns w B m x ds) (ho : NdOp op m) (hout : (out.toList == []) = false) (hx1 : 1 ≤ x) (hx2 : x ≤ 30) :
    Calls Tryz.prog 153 #[.agg #[.string op, .string nm, .slice A m c, .string out, .slice none 0 0], .slice B m d] w fun e w' => ∃ D k, e = .returned (.tuple #[.agg #[.string out, .int .i64 6, .slice D 1 k], .int .i64 0]) ∧ One w' D x ∧ Since w w' := by
  have HG := Lib.hid hg
  have HX := Lib.hid hx
  have HT := Lib.hid ht
  have HO := Lib.hid ho
  obtain ⟨i28, hi28⟩ : ∃ i, Tryz.prog.info? 28 = some i ∧ i.zero = some (.agg #[.string ⟨#[]⟩, .int .i64 0, .slice none 0 0]) ∧ i.size = 3 ∧ i.bytes = 48 := by
    obtain ⟨i, h1, h2, h3, h4⟩ := info_parts Tryz.info28
    exact ⟨i, h1, h2, h3, h4⟩
  have HI := Lib.hid hi28
  have hm2 := ho.cases
  clear hg hx ht ho hi28
  go_enter Tryz.func153, Tryz.ntmps153
  go_wp2_with fail
  refine newX2 (F := fun W => Code.wp _ _ _ _ W) ?_
  intro w1 h1
  have HX1 := Lib.hid h1
  clear h1
  go_loopw [6, 11] (fun v i wr => ∃ k : Nat, k ≤ m ∧ i = .int .i64 k ∧ Fx w wr [some (.cells #[.string op, .string nm, .slice A m c, .string out, .slice none 0 0] 37), some (.cells #[.string ⟨#[]⟩, .int .i64 0, .slice none 0 0] 28)] ∧ ∃ rs : List (List Value), rs.length = k ∧ (∀ (j : Nat) (r : List Value), rs[j]? = some r → ∃ Ad cd, r = ([.string ⟨#[]⟩, .int .i64 6, .slice Ad 1 cd] : List Value) ∧ One w Ad x) ∧ OwnL (repRaw 3) 28 wr (w.heap.size + 2) (fun _ => False) v rs) (fun _ i _ => m - (intOf i).toNat)
  case atStart => exact ⟨0, by omega, rfl, HX1.out, [], rfl, fun j r h => by simp at h, ownL_nil⟩
  case round =>
    obtain ⟨k, hk, rfl, hs, rs, hrl, hrs, hown⟩ := hrel
    have zy : w.heap.size + 2 ≤ wr.heap.size := by have := hs.size; simpa using this
    by_cases hlt : k < m
    · obtain ⟨b, off, rfl, hb, hc⟩ := HT.out
      obtain ⟨Ad, cd, At, ct, q0, q1, q2, q3⟩ := hc k hlt
      have q0 := (hs.below.cell (p := ⟨b, _, none⟩) hb).trans q0
      have q1 := (hs.below.cell (p := ⟨b, _, none⟩) hb).trans q1
      have q2 := (hs.below.cell (p := ⟨b, _, none⟩) hb).trans q2
      have hbr : b < wr.heap.size := by omega
      obtain ⟨Av, cv, hv⟩ := hown.form
      rw [hrl] at hv
      subst hv
      have hP := pcheck_any Ad At cd ct x ds (wr.alloc (.cells #[.int .i64 6, .slice Ad 1 cd, .slice At x ct] 44)) (q3.since (Since.al hs.below _))
      have hki : (k : Int) < m := by omega
      have HS := Lib.hid hs
      have HOWN := Lib.hid hown
      have HRS := Lib.hid hrs
      have HD := Lib.hid q3.dim
      clear hs hown hrs hc q3
      go_wp2_with (first | (go_at_call 44; refine hP.mono ?_; rintro e w4 ⟨rfl, hs4⟩; obtain ⟨x0, x1, x2, -⟩ := cells3 hs4.nw; have hs14 : Since wr w4 := Below.trans (below_new _ _) (Below.mono hs4 (by simp)); have zz : wr.heap.size < w4.heap.size := (by have := hs4.size; simp at this; omega); have HO4 := Lib.hid (HOWN.out.keep (fun i hi => hs14.block i (HOWN.out.lt i hi).2) (fun _ h => h.elim) (fun _ h => h)); have HS14 := Lib.hid hs14; clear hs4 hs14) | (at_builtin; refine wpList_append_f w4 (repRaw 3) (flatRaw 3) [.string ⟨#[]⟩, .int .i64 6, .slice Ad 1 cd] [.string ⟨#[]⟩, .int .i64 6, .slice Ad 1 cd] rfl (.tmp 19) (.tmp 25) 29 rfl 28 i28 _ 48 Tryz.underlying29 HI.out.1 HI.out.2.1 HI.out.2.2.1 HI.out.2.2.2 rfl (by decide) (by decide) (w.heap.size + 2) _ _ rfl HO4.out ⟨rfl, rfl, by simp [Value.oneCell']⟩ w4.heap.size rfl rfl (by omega) (by omega) ?_; intro v' w7 ho7 hb7))
      have hs7 : Below (w.heap.size + 2) wr w7 := Below.trans (Below.mono HS14.out zy) hb7
      refine ⟨⟨k + 1, by omega, by go_num, HS.out.later hs7, rs ++ [[.string ⟨#[]⟩, .int .i64 6, .slice Ad 1 cd]], by simp [hrl], fun j r hj => ?_, ho7⟩, by simp [intOf]; omega⟩
      rcases Nat.lt_or_ge j rs.length with h | h
      · rw [List.getElem?_append_left h] at hj
        exact HRS.out j r hj
      · rw [List.getElem?_append_right h] at hj
        rcases Nat.eq_zero_or_pos (j - rs.length) with h0 | h0
        · rw [h0] at hj
          cases hj
          exact ⟨Ad, cd, rfl, HD.out⟩
        · rw [List.getElem?_eq_none (by simp; omega)] at hj
          cases hj
    · obtain rfl : k = m := by omega
      obtain ⟨bi, cI, e5, hi1, hi2, hi3⟩ := hown.raw (by decide) (by omega)
      rw [hrl] at e5
      subst e5
      have hIV : InV wr (some ⟨bi, 0, none⟩) k x := ⟨bi, 0, rfl, hi2, fun j hj => by
        obtain ⟨r, hr⟩ : ∃ r, rs[j]? = some r := ⟨_, List.getElem?_eq_getElem (by omega)⟩
        obtain ⟨Ad, cd, rfl, hO⟩ := hrs j r hr
        exact ⟨⟨#[]⟩, Ad, cd, by have := hi3 j _ hr 0 (by decide); simpa using this, by have := hi3 j _ hr 1 (by decide); simpa using this, by have := hi3 j _ hr 2 (by decide); simpa using this, hO.below hs.below⟩⟩
      obtain ⟨r0, r1, r2, r3, r4, -⟩ := cells5 (hs.b0 rfl)
      have hO := out_any op nm out A (some ⟨bi, 0, none⟩) k c cI x wr (HG.out.below hs.below) (HX.out.below hs.below) hIV HO.out hout (by omega) (by omega)
      have HS := Lib.hid hs
      clear hs hown hrs hi3 hIV hlt
      go_wp2_with fail
      refine hO.mono ?_
      rintro e w8 ⟨D8, c8, rfl, h8, hb8⟩
      have hs8 := HS.out.all hb8
      have g8 := hs8.b1 rfl
      have hne := h8.off g8 (fun i => by
        rcases i with _ | _ | _ | i <;> simp
        omega)
      obtain ⟨y0, y1, y2, y3, y4, y5⟩ := cells3 g8
      clear r0 r1 r2 r3 r4 hO
      go_wp2_with fail
      refine put3 (F := fun W => bodyPost _ _ _ _ _ W) g8 ?_
      intro w5 g5 hk5 hb5 hz5
      refine bodyPost_ret (res_row_tmp rfl _ _ (w.heap.size + 1) 28 _ (0, 0) _ rfl g5 Tryz.underlying28 rfl (by kernel_rfl)) rfl ?_
      exact ⟨_, _, rfl, h8.turn hne hk5 hz5, hs8.below.trans (hb5.mono (by omega))⟩
set_option maxHeartbeats 3200000 in
theorem begin236_any (op nm out : ByteArray) (A B : Option Addr) (m c d x : Nat) (ds : List Int) (w : World) (hg : Gl w) (hx : Xs w A m) (ht : Tns w B m x ds) (ho : NdOp op m) (hout : (out.toList == []) = false) (hx1 : 1 ≤ x) (hx2 : x ≤ 30) :
    Calls Tryz.prog 236 #[.agg #[.string op, .string nm, .slice A m c, .string out, .slice none 0 0], .slice B m d] w fun e w' => ∃ D k, e = .returned (.tuple #[.agg #[.string out, .int .i64 6, .slice D 1 k], .int .i64 0]) ∧ One w' D x ∧ Since w w' := by
  have HG := Lib.hid hg
  have HX := Lib.hid hx
  have HT := Lib.hid ht
  have HO := Lib.hid ho
  obtain ⟨i28, hi28⟩ : ∃ i, Tryz.prog.info? 28 = some i ∧ i.zero = some (.agg #[.string ⟨#[]⟩, .int .i64 0, .slice none 0 0]) ∧ i.size = 3 ∧ i.bytes = 48 := by
    obtain ⟨i, h1, h2, h3, h4⟩ := info_parts Tryz.info28
    exact ⟨i, h1, h2, h3, h4⟩
  have HI := Lib.hid hi28
  have hm2 := ho.cases
  clear hg hx ht ho hi28
  go_enter Tryz.func236, Tryz.ntmps236
  go_wp2_with fail
  refine newX2 (F := fun W => Code.wp _ _ _ _ W) ?_
  intro w1 h1
  have HX1 := Lib.hid h1
  clear h1
  go_loopw [6, 11] (fun v i wr => ∃ k : Nat, k ≤ m ∧ i = .int .i64 k ∧ Fx w wr [some (.cells #[.string op, .string nm, .slice A m c, .string out, .slice none 0 0] 37), some (.cells #[.string ⟨#[]⟩, .int .i64 0, .slice none 0 0] 28)] ∧ ∃ rs : List (List Value), rs.length = k ∧ (∀ (j : Nat) (r : List Value), rs[j]? = some r → ∃ Ad cd, r = ([.string ⟨#[]⟩, .int .i64 6, .slice Ad 1 cd] : List Value) ∧ One w Ad x) ∧ OwnL (repRaw 3) 28 wr (w.heap.size + 2) (fun _ => False) v rs) (fun _ i _ => m - (intOf i).toNat)
  case atStart => exact ⟨0, by omega, rfl, HX1.out, [], rfl, fun j r h => by simp at h, ownL_nil⟩
  case round =>
    obtain ⟨k, hk, rfl, hs, rs, hrl, hrs, hown⟩ := hrel
    have zy : w.heap.size + 2 ≤ wr.heap.size := by have := hs.size; simpa using this
    by_cases hlt : k < m
    · obtain ⟨b, off, rfl, hb, hc⟩ := HT.out
      obtain ⟨Ad, cd, At, ct, q0, q1, q2, q3⟩ := hc k hlt
      have q0 := (hs.below.cell (p := ⟨b, _, none⟩) hb).trans q0
      have q1 := (hs.below.cell (p := ⟨b, _, none⟩) hb).trans q1
      have q2 := (hs.below.cell (p := ⟨b, _, none⟩) hb).trans q2
      have hbr : b < wr.heap.size := by omega
      obtain ⟨Av, cv, hv⟩ := hown.form
      rw [hrl] at hv
      subst hv
      have hP := pcheck_any Ad At cd ct x ds (wr.alloc (.cells #[.int .i64 6, .slice Ad 1 cd, .slice At x ct] 44)) (q3.since (Since.al hs.below _))
      have hki : (k : Int) < m := by omega
      have HS := Lib.hid hs
      have HOWN := Lib.hid hown
      have HRS := Lib.hid hrs
      have HD := Lib.hid q3.dim
      clear hs hown hrs hc q3
      go_wp2_with (first | (go_at_call 44; refine hP.mono ?_; rintro e w4 ⟨rfl, hs4⟩; obtain ⟨x0, x1, x2, -⟩ := cells3 hs4.nw; have hs14 : Since wr w4 := Below.trans (below_new _ _) (Below.mono hs4 (by simp)); have zz : wr.heap.size < w4.heap.size := (by have := hs4.size; simp at this; omega); have HO4 := Lib.hid (HOWN.out.keep (fun i hi => hs14.block i (HOWN.out.lt i hi).2) (fun _ h => h.elim) (fun _ h => h)); have HS14 := Lib.hid hs14; clear hs4 hs14) | (at_builtin; refine wpList_append_f w4 (repRaw 3) (flatRaw 3) [.string ⟨#[]⟩, .int .i64 6, .slice Ad 1 cd] [.string ⟨#[]⟩, .int .i64 6, .slice Ad 1 cd] rfl (.tmp 19) (.tmp 25) 29 rfl 28 i28 _ 48 Tryz.underlying29 HI.out.1 HI.out.2.1 HI.out.2.2.1 HI.out.2.2.2 rfl (by decide) (by decide) (w.heap.size + 2) _ _ rfl HO4.out ⟨rfl, rfl, by simp [Value.oneCell']⟩ w4.heap.size rfl rfl (by omega) (by omega) ?_; intro v' w7 ho7 hb7))
      have hs7 : Below (w.heap.size + 2) wr w7 := Below.trans (Below.mono HS14.out zy) hb7
      refine ⟨⟨k + 1, by omega, by go_num, HS.out.later hs7, rs ++ [[.string ⟨#[]⟩, .int .i64 6, .slice Ad 1 cd]], by simp [hrl], fun j r hj => ?_, ho7⟩, by simp [intOf]; omega⟩
      rcases Nat.lt_or_ge j rs.length with h | h
      · rw [List.getElem?_append_left h] at hj
        exact HRS.out j r hj
      · rw [List.getElem?_append_right h] at hj
        rcases Nat.eq_zero_or_pos (j - rs.length) with h0 | h0
        · rw [h0] at hj
          cases hj
          exact ⟨Ad, cd, rfl, HD.out⟩
        · rw [List.getElem?_eq_none (by simp; omega)] at hj
          cases hj
    · obtain rfl : k = m := by omega
      obtain ⟨bi, cI, e5, hi1, hi2, hi3⟩ := hown.raw (by decide) (by omega)
      rw [hrl] at e5
      subst e5
      have hIV : InV wr (some ⟨bi, 0, none⟩) k x := ⟨bi, 0, rfl, hi2, fun j hj => by
        obtain ⟨r, hr⟩ : ∃ r, rs[j]? = some r := ⟨_, List.getElem?_eq_getElem (by omega)⟩
        obtain ⟨Ad, cd, rfl, hO⟩ := hrs j r hr
        exact ⟨⟨#[]⟩, Ad, cd, by have := hi3 j _ hr 0 (by decide); simpa using this, by have := hi3 j _ hr 1 (by decide); simpa using this, by have := hi3 j _ hr 2 (by decide); simpa using this, hO.below hs.below⟩⟩
      obtain ⟨r0, r1, r2, r3, r4, -⟩ := cells5 (hs.b0 rfl)
      have hO := out_any op nm out A (some ⟨bi, 0, none⟩) k c cI x wr (HG.out.below hs.below) (HX.out.below hs.below) hIV HO.out hout (by omega) (by omega)
      have HS := Lib.hid hs
      clear hs hown hrs hi3 hIV hlt
      go_wp2_with fail
      refine hO.mono ?_
      rintro e w8 ⟨D8, c8, rfl, h8, hb8⟩
      have hs8 := HS.out.all hb8
      have g8 := hs8.b1 rfl
      have hne := h8.off g8 (fun i => by
        rcases i with _ | _ | _ | i <;> simp
        omega)
      obtain ⟨y0, y1, y2, y3, y4, y5⟩ := cells3 g8
      clear r0 r1 r2 r3 r4 hO
      go_wp2_with fail
      refine put3 (F := fun W => bodyPost _ _ _ _ _ W) g8 ?_
      intro w5 g5 hk5 hb5 hz5
      refine bodyPost_ret (res_row_tmp rfl _ _ (w.heap.size + 1) 28 _ (0, 0) _ rfl g5 Tryz.underlying28 rfl (by kernel_rfl)) rfl ?_
      exact ⟨_, _, rfl, h8.turn hne hk5 hz5, hs8.below.trans (hb5.mono (by omega))⟩
end Go.Proofs.YtbilddeepnnogaaGreatDoor
end
/- Pieces: what a node's operator does at a place. -/
section
set_option linter.unusedVariables false
set_option maxRecDepth 100000
namespace Go.Proofs.YtbilddeepnnogaaGreatDoor
open Go.RowKit Go.Shelf

/-- What an operator makes of an element. -/
def opV (op : ByteArray) (d : Int) : Int := if op = ⟨#[78, 101, 103]⟩ then -d else if op = ⟨#[65, 98, 115]⟩ then max d (-d) else if op = ⟨#[65, 100, 100]⟩ then d + d else d
theorem opV_neg (d : Int) : opV ⟨#[78, 101, 103]⟩ d = -d := if_pos rfl
theorem opV_abs (d : Int) : opV ⟨#[65, 98, 115]⟩ d = max d (-d) := (if_neg (by decide)).trans (if_pos rfl)
theorem opV_add (d : Int) : opV ⟨#[65, 100, 100]⟩ d = d + d := (if_neg (by decide)).trans ((if_neg (by decide)).trans (if_pos rfl))
theorem opV_idn (d : Int) : opV ⟨#[73, 100, 101, 110, 116, 105, 116, 121]⟩ d = d := (if_neg (by decide)).trans ((if_neg (by decide)).trans (if_neg (by decide)))
theorem unaryV (op : ByteArray) (ho : Ops1 op) (d : Int) (h : Sm d) (w : World) : Calls Tryz.prog 176 #[.string op, .int .i64 6, .int .i64 d] w fun e w' => e = .returned (.tuple #[.int .i64 (opV op d), .int .i64 0]) ∧ w' = w := by
  rcases ho with rfl | rfl | rfl
  · rw [opV_neg]; exact unary_neg d w h
  · rw [opV_abs]; exact unary_abs d w h
  · rw [opV_idn]; exact unary_idn d w h
/-- What a slice of so many of one number is. -/
def Reps (w : World) (g m : Nat) (d : Int) : Prop := ∀ j, j < m → w.cell? ⟨g, j, none⟩ = some (.int .i64 d)
set_option maxHeartbeats 1600000 in
theorem place328 (op : ByteArray) (ho : Ops1 op) (d : Int) (hd : Sm d) (m g c p q : Nat) (hm : m = 1) (w : World) (hg : Reps w g 1 d) (hp : w.cell? ⟨p, 0, none⟩ = some (.string op)) (hq : w.cell? ⟨q, 0, none⟩ = some (.int .i64 6)) :
    Calls Tryz.prog 328 #[.slice (some ⟨g, 0, none⟩) m c, .pointer (some ⟨p, 0, none⟩), .pointer (some ⟨q, 0, none⟩)] w fun e w' => e = .returned (.tuple #[.int .i64 (opV op d), .int .i64 0]) ∧ Since w w' := by
  subst hm
  have hU := fun w => unaryV op ho d hd w
  have g0 := hg 0 (by omega)
  clear hg
  go_enter Tryz.func328, Tryz.ntmps328
  go_wp2_with fail
  go_quiet ((go_at_call 176; exact Calls.quiet_of_same (hU _)))
  go_wp2_with fail
  go_ret2
  exact ⟨rfl, (Since.refl w).drN _⟩
set_option maxHeartbeats 1600000 in
theorem place329 (d : Int) (hd : Sm d) (m g c p q : Nat) (hm : m = 2) (w : World) (hg : Reps w g 2 d) (hp : w.cell? ⟨p, 0, none⟩ = some (.string ⟨#[65, 100, 100]⟩)) (hq : w.cell? ⟨q, 0, none⟩ = some (.int .i64 6)) :
    Calls Tryz.prog 329 #[.slice (some ⟨g, 0, none⟩) m c, .pointer (some ⟨p, 0, none⟩), .pointer (some ⟨q, 0, none⟩)] w fun e w' => e = .returned (.tuple #[.int .i64 (opV ⟨#[65, 100, 100]⟩ d), .int .i64 0]) ∧ Since w w' := by
  subst hm
  have hU := fun w => binary_add d d w hd hd
  rw [opV_add]
  have g0 := hg 0 (by omega)
  have g1 := hg 1 (by omega)
  clear hg
  go_enter Tryz.func329, Tryz.ntmps329
  go_wp2_with fail
  go_quiet ((go_at_call 207; exact Calls.quiet_of_same (hU _)))
  go_wp2_with fail
  go_ret2
  exact ⟨rfl, (Since.refl w).drN _⟩
/-- What is done at a place, as a value. -/
def PlV (w : World) (op : ByteArray) (m : Nat) (fv : Value) : Prop := ∃ p q, w.cell? ⟨p, 0, none⟩ = some (.string op) ∧ w.cell? ⟨q, 0, none⟩ = some (.int .i64 6) ∧ ((Ops1 op ∧ m = 1 ∧ fv = .func (.func 328) #[] #[.pointer (some ⟨p, 0, none⟩), .pointer (some ⟨q, 0, none⟩)]) ∨ (op = ⟨#[65, 100, 100]⟩ ∧ m = 2 ∧ fv = .func (.func 329) #[] #[.pointer (some ⟨p, 0, none⟩), .pointer (some ⟨q, 0, none⟩)]))
set_option maxHeartbeats 1600000 in
theorem placed_any (op nm out : ByteArray) (A B : Option Addr) (m c d x : Nat) (ds : List Int) (w : World) (ht : Tns w B m x ds) (ho : NdOp op m) :
    Calls Tryz.prog 237 #[.agg #[.string op, .string nm, .slice A m c, .string out, .slice none 0 0], .slice B m d] w fun e w' => ∃ fv, e = .returned (.tuple #[fv, .bool true]) ∧ PlV w' op m fv ∧ Since w w' := by
  have hmf : ∀ (fn : Fn) (first cap : Array Value) (w : World), (Instr.makeFunc fn first cap).run Tryz.prog w = .ok (.func fn first cap) w := fun _ _ _ _ => rfl
  obtain ⟨b, off, rfl, hb, hc⟩ := ht
  obtain ⟨Ad, cd, At, ct, q0, -, -, -⟩ := hc 0 (by have := ho.cases; omega)
  simp only [Nat.zero_mul, Nat.add_zero] at q0
  clear hc
  rcases ho with ⟨rfl | rfl | rfl, rfl⟩ | ⟨rfl, rfl⟩
  all_goals
    go_enter Tryz.func237, Tryz.ntmps237
    go_wp2_with fail
    refine newX2 (F := fun W => bodyPost _ _ _ _ _ W) ?_
    intro w1 h1
    obtain ⟨r0, -⟩ := cells5 (h1.b0 rfl)
    obtain ⟨s0, -⟩ := cells1 (h1.b1 rfl)
    go_ret2
    refine ⟨_, rfl, ⟨_, _, r0, s0, ?_⟩, h1.below⟩
    first
      | exact .inl ⟨.inl rfl, rfl, rfl⟩
      | exact .inl ⟨.inr (.inl rfl), rfl, rfl⟩
      | exact .inl ⟨.inr (.inr rfl), rfl, rfl⟩
      | exact .inr ⟨rfl, rfl, rfl⟩
end Go.Proofs.YtbilddeepnnogaaGreatDoor
end
