/- The walks: spreading, the program's own. -/
import Derived.Test.YtanghkleojjplaaWf
import Derived.Deep.QuietTactic
import Derived.BigQuiet
namespace Go.Proofs.Ytanghkleojjplaa
open Go.RowKit

set_option maxHeartbeats 800000 in
theorem broad_bad1 (w : World) (B B' : Nat) (A A' : Option Addr) (n c n' c' : Nat) (l m : List Int) (h : Ints w B A n l) (hB : B ≤ w.heap.size) (err : Int) (hb : Bad l err) :
    Calls Try.prog 19 #[.slice A n c, .slice A' n' c'] w (Lst w [] err) := by
  refine hb.cases (P := fun err => Calls Try.prog 19 #[.slice A n c, .slice A' n' c'] w (Lst w [] err)) (fun hc => ?_) (fun hc => ?_)
  all_goals
    have Hb := Lib.hid hc
    clear hb hc
    go_enter Try.func19, Try.ntmps19
    go_wp2_with fail
    refine wp_loop_rounds 1 ?_
    rw [rounds_succ]
    go_wp2_with fail
    refine (count_any _ B A n c l (h.alloc hB _) _ _ Hb.out).mono ?_
    rintro e w1 ⟨rfl, rfl⟩
    go_wp2
    go_ret2
    exact lst_err' _ _ ((Below.refl _ _).alloc (Nat.le_refl _) _) ⟨rfl, rfl⟩
set_option maxHeartbeats 800000 in
theorem broad_bad2 (w : World) (B B' : Nat) (A A' : Option Addr) (n c n' c' : Nat) (l m : List Int) (h : Ints w B A n l) (g : Ints w B' A' n' m) (hB : B ≤ w.heap.size) (hB' : B' ≤ w.heap.size) (hg : Good l) (err : Int) (hb : Bad m err) :
    Calls Try.prog 19 #[.slice A n c, .slice A' n' c'] w (Lst w [] err) := by
  have Hc := Lib.hid (countIs_good hg)
  clear hg
  refine hb.cases (P := fun err => Calls Try.prog 19 #[.slice A n c, .slice A' n' c'] w (Lst w [] err)) (fun hc => ?_) (fun hc => ?_)
  all_goals
    have Hb := Lib.hid hc
    clear hb hc
    go_enter Try.func19, Try.ntmps19
    go_wp2_with fail
    refine wp_loop_rounds 2 ?_
    rw [rounds_succ]
    go_wp2_with fail
    refine (count_any _ B A n c l (h.alloc hB _) _ _ Hc.out).mono ?_
    rintro e w1 ⟨rfl, rfl⟩
    go_wp2_with fail
    rw [rounds_succ]
    go_wp2_with fail
    refine (count_any _ B' A' n' c' m (g.alloc hB' _) _ _ Hb.out).mono ?_
    rintro e w1 ⟨rfl, rfl⟩
    go_wp2
    go_ret2
    exact lst_err' _ _ ((Below.refl _ _).alloc (Nat.le_refl _) _) ⟨rfl, rfl⟩

set_option maxHeartbeats 2000000 in
theorem broad_long (w : World) (B B' : Nat) (A A' : Option Addr) (n c n' c' : Nat) (l m : List Int) (h : Ints w B A n l) (g : Ints w B' A' n' m) (hB : B ≤ w.heap.size) (hB' : B' ≤ w.heap.size) (hgl : Good l) (hgm : Good m) (x : List Int) (err : Int) (hx : BcIs l m x err) (hle : n' ≤ n) :
    Calls Try.prog 19 #[.slice A n c, .slice A' n' c'] w (Lst w x err) := by
  have h6 : n ≤ 6 := by rw [← h.len]; exact hgl.2.1
  have g6 : n' ≤ 6 := by rw [← g.len]; exact hgm.2.1
  have Hl := Lib.hid h.len
  have Gl := Lib.hid g.len
  have hp := hgl.1
  have gp := hgm.1
  have Hc := Lib.hid (countIs_good hgl)
  have Gc := Lib.hid (countIs_good hgm)
  have Hunfit := Lib.hid (show ¬ Fits l m → x = [] ∧ err = 4 from fun hf => hx.unfit hgl hgm fun h => hf h)
  have Hbig := Lib.hid (show ∀ e2, Fits l m → Bad (bc l m) e2 → x = [] ∧ err = e2 from fun e2 hf hb => hx.big hgl hgm hf (by exact hb))
  have Hok := Lib.hid (show Fits l m → Good (bc l m) → x = bc l m ∧ err = 0 from fun hf hb => by
    have := hx.ok hgl hgm hf (by exact hb)
    exact this)
  clear hx hgl hgm
  have Hlong := Lib.hid (show m.length ≤ l.length by rw [Gl.out, Hl.out]; omega)
  go_enter Try.func19, Try.ntmps19
  go_wp2_with fail
  refine wp_loop_rounds 3 ?_
  rw [rounds_succ]
  go_wp2_with fail
  refine (count_any _ B A n c l (h.alloc hB _) _ _ Hc.out).mono ?_
  rintro e w1 ⟨rfl, rfl⟩
  go_wp2_with fail
  rw [rounds_succ]
  go_wp2_with fail
  refine (count_any _ B' A' n' c' m (g.alloc hB' _) _ _ Gc.out).mono ?_
  rintro e w1 ⟨rfl, rfl⟩
  go_wp2_with fail
  rw [rounds_succ]
  go_wp2_with fail
  refine (clone_any _ B A n c l (h.alloc hB _) (by simp; omega) (by omega)).mono ?_
  rintro e w1 ⟨Ao, no, co, rfl, hno, hown, hbel⟩
  rw [Hl.out] at hno
  subst hno
  have hW : w.heap.size < w1.heap.size := by have := hbel.size; simp at this; omega
  have hown' : Own w1 w.heap.size (.slice Ao no co) l := ⟨hown.1.mono_ (by simp), hown.2⟩
  have hbel' : Below w.heap.size w w1 := ((Below.refl _ _).alloc (Nat.le_refl _) _).trans (hbel.mono (by simp))
  clear hown hbel
  go_wp2_with fail
  go_loopw [13, 49] (fun d i wr => ∃ k : Nat, k ≤ n' ∧ i = .int .i64 k ∧ Below w.heap.size w wr ∧ Own wr w.heap.size (.slice Ao no co) (outTo l m k) ∧ ∀ j, j < k → ix l (l.length - m.length + j) = ix m j ∨ ix l (l.length - m.length + j) = 1 ∨ ix m j = 1) (fun _ i _ => n' - (intOf i).toNat)
  case atStart => exact ⟨0, Nat.zero_le _, rfl, hbel', by rw [outTo_zero _ _ Hlong.out hp]; exact hown', fun j hj => absurd hj (by omega)⟩
  case round =>
    obtain ⟨k, hk, rfl, hb, ho, hall⟩ := hrel
    have Hall := Lib.hid hall
    clear hall
    by_cases hlt : k < n'
    · have hq := g.below (hb.mono hB') (Nat.le_refl _)
      obtain ⟨b2, o2, rfl, hb2, hc2⟩ := hq.get hlt
      have hlen : no = (outTo l m k).length := by rw [outTo_length _ _ Hlong.out k (by rw [Gl.out]; omega), Hl.out]
      have Hlen := Lib.hid hlen
      clear hlen
      obtain ⟨gb, o1, rfl, hg1, hc1⟩ := (ho.ints Hlen.out).get (k := no - n' + k) (by omega)
      have e0 : o1 = 0 := by
        rcases ho.1.2 with ⟨e, _⟩ | ⟨g', cap, cur, e, _⟩
        · simp at e
        · simp at e; exact e.1.2
      subst e0
      obtain ⟨r1, r2⟩ := ho.read Hlen.out (no - n' + k) (by omega)
      clear hc1
      have Hnew := Lib.hid (show ix (outTo l m k) (no - n' + k) = ix l (no - n' + k) by
        have := outTo_ix_new l m Hlong.out k (by rw [Gl.out]; exact hlt)
        rwa [Hl.out, Gl.out] at this)
      rw [Hnew.out] at r1
      have hbase := ho.base
      have x1 := pos_ix hp (no - n' + k) (by rw [Hl.out]; omega)
      have y1 := pos_ix gp k (by rw [Gl.out]; exact hlt)
      have Hset := Lib.hid (show ∀ (wr : World) (v : Int), v = max (ix l (no - n' + k)) (ix m k) → Own wr w.heap.size (.slice (some ⟨gb, 0, none⟩) no co) (outTo l m k) → Own (wr.setCell ⟨gb, no - n' + k, none⟩ (.int .i64 v)) w.heap.size (.slice (some ⟨gb, 0, none⟩) no co) (outTo l m (k + 1)) from fun wr v hv ho => by
        have ho' := ho.set_ Hlen.out (no - n' + k) v
        have e := outTo_succ l m Hlong.out hp k (by rw [Gl.out]; exact hlt) v (by rw [Hl.out, Gl.out]; exact hv)
        rw [Hl.out, Gl.out] at e
        rw [e] at ho'
        exact ho')
      have Hsame := Lib.hid (show (ix m k = 1 ∨ ix m k = ix l (no - n' + k)) → outTo l m k = outTo l m (k + 1) from fun hv => outTo_same l m Hlong.out hp k (by rw [Gl.out]; exact hlt) (by rw [Hl.out, Gl.out]; exact hv))
      have Hstep := Lib.hid (show (ix l (no - n' + k) = ix m k ∨ ix l (no - n' + k) = 1 ∨ ix m k = 1) → ∀ j, j < k + 1 → ix l (l.length - m.length + j) = ix m j ∨ ix l (l.length - m.length + j) = 1 ∨ ix m j = 1 from fun hf j hj => by
        by_cases e : j = k
        · subst e; rw [Hl.out, Gl.out]; exact hf
        · exact Hall.out j (by omega))
      by_cases hp1 : ix l (no - n' + k) = 1
      · have Hp1 := Lib.hid hp1
        have q1 : (ix l (no - n' + k) == 1) = true := by simp [hp1]
        clear hp1
        go_wp2
        go_roundw
        case rel => exact ⟨k + 1, by omega, by go_num, hb.setCell hbase _, Hset.out _ _ (by have := Hp1.out; omega) ho, Hstep.out (.inr (.inl Hp1.out))⟩
        case measure => simp [intOf]; omega
      · have q1 : (ix l (no - n' + k) == 1) = false := by simp [hp1]
        have hi0 : (0 : Int) ≤ k := by omega
        have hi1 : (k : Int) < n' := by omega
        by_cases hq1 : ix m k = 1
        · have Hq1 := Lib.hid hq1
          have q2 : (ix m k != 1) = false := by simp [hq1]
          clear hp1 hq1
          go_wp2
          go_quiet (fail)
          go_wp2
          go_roundw
          case rel => exact ⟨k + 1, by omega, by go_num, below_drewN hb _, by rw [← Hsame.out (.inl Hq1.out)]; exact ho.drewN _, Hstep.out (.inr (.inr Hq1.out))⟩
          case measure => simp [intOf]; omega
        · have q2 : (ix m k != 1) = true := by simp [hq1]
          by_cases hqe : ix m k = ix l (no - n' + k)
          · have Hqe := Lib.hid hqe
            have q3 : (ix m k != ix l (no - n' + k)) = false := by simp [hqe]
            clear hp1 hq1 hqe
            go_wp2
            go_quiet (fail)
            go_wp2
            go_roundw
            case rel => exact ⟨k + 1, by omega, by go_num, below_drewN hb _, by rw [← Hsame.out (.inr Hqe.out)]; exact ho.drewN _, Hstep.out (.inl Hqe.out.symm)⟩
            case measure => simp [intOf]; omega
          · have q3 : (ix m k != ix l (no - n' + k)) = true := by simp [hqe]
            have Hno := Lib.hid (show ¬ Fits l m from fun hf => by
              have := (fits_long l m Hlong.out).1 hf k (by rw [Gl.out]; exact hlt)
              rw [Hl.out, Gl.out] at this
              omega)
            clear hp1 hq1 hqe
            go_wp2
            go_quiet (fail)
            go_wp2
            go_ret2
            exact lst_err' _ _ (below_drewN hb _) (Hunfit.out Hno.out)
    · have e : k = m.length := by rw [Gl.out]; omega
      have hfit : Fits l m := (fits_long l m Hlong.out).2 fun j hj => Hall.out j (by omega)
      rw [e, outTo_all _ _ Hlong.out] at ho
      have hoi := ho.ints (by rw [bc_length]; have := Hlong.out; rw [← Hl.out]; omega)
      have Hfit := Lib.hid hfit
      clear e hfit Hall
      rcases bad_ways (bc l m) with hgood | ⟨e2, hng, hbad⟩
      · have Hok' := Lib.hid (Hok.out Hfit.out hgood)
        have Hcc := Lib.hid (countIs_good hgood)
        clear hgood
        go_wp2_with fail
        refine (count_any _ _ _ _ _ _ hoi _ _ Hcc.out).mono ?_
        rintro e w1 ⟨rfl, rfl⟩
        go_wp2
        go_ret2
        obtain ⟨rfl, rfl⟩ := Hok'.out
        exact ⟨_, _, _, rfl, by rw [bc_length]; have := Hlong.out; rw [← Hl.out]; omega, ho, hb⟩
      · clear hng
        have Hbig' := Lib.hid (Hbig.out _ Hfit.out hbad)
        obtain ⟨hc2, rfl | rfl⟩ := hbad
        all_goals
          have Hcc := Lib.hid hc2
          clear hc2
          go_wp2_with fail
          refine (count_any _ _ _ _ _ _ hoi _ _ Hcc.out).mono ?_
          rintro e w1 ⟨rfl, rfl⟩
          go_wp2
          go_ret2
          exact lst_err' _ _ hb Hbig'.out

set_option maxHeartbeats 2000000 in
theorem broad_short (w : World) (B B' : Nat) (A A' : Option Addr) (n c n' c' : Nat) (l m : List Int) (h : Ints w B A n l) (g : Ints w B' A' n' m) (hB : B ≤ w.heap.size) (hB' : B' ≤ w.heap.size) (hgl : Good l) (hgm : Good m) (x : List Int) (err : Int) (hx : BcIs l m x err) (hle : n < n') :
    Calls Try.prog 19 #[.slice A n c, .slice A' n' c'] w (Lst w x err) := by
  have h6 : n ≤ 6 := by rw [← h.len]; exact hgl.2.1
  have g6 : n' ≤ 6 := by rw [← g.len]; exact hgm.2.1
  have Hl := Lib.hid g.len
  have Gl := Lib.hid h.len
  have hp := hgm.1
  have gp := hgl.1
  have Hc := Lib.hid (countIs_good hgl)
  have Gc := Lib.hid (countIs_good hgm)
  have Hunfit := Lib.hid (show ¬ Fits m l → x = [] ∧ err = 4 from fun hf => hx.unfit hgl hgm fun h => hf (fits_comm h))
  have Hbig := Lib.hid (show ∀ e2, Fits m l → Bad (bc m l) e2 → x = [] ∧ err = e2 from fun e2 hf hb => hx.big hgl hgm (fits_comm hf) (by rw [bc_comm]; exact hb))
  have Hok := Lib.hid (show Fits m l → Good (bc m l) → x = bc m l ∧ err = 0 from fun hf hb => by
    have := hx.ok hgl hgm (fits_comm hf) (by rw [bc_comm]; exact hb)
    rw [bc_comm] at this; exact this)
  clear hx hgl hgm
  have Hlong := Lib.hid (show l.length ≤ m.length by rw [Gl.out, Hl.out]; omega)
  go_enter Try.func19, Try.ntmps19
  go_wp2_with fail
  refine wp_loop_rounds 3 ?_
  rw [rounds_succ]
  go_wp2_with fail
  refine (count_any _ B A n c l (h.alloc hB _) _ _ Hc.out).mono ?_
  rintro e w1 ⟨rfl, rfl⟩
  go_wp2_with fail
  rw [rounds_succ]
  go_wp2_with fail
  refine (count_any _ B' A' n' c' m (g.alloc hB' _) _ _ Gc.out).mono ?_
  rintro e w1 ⟨rfl, rfl⟩
  go_wp2_with fail
  rw [rounds_succ]
  go_wp2_with fail
  refine (clone_any _ B' A' n' c' m (g.alloc hB' _) (by simp; omega) (by omega)).mono ?_
  rintro e w1 ⟨Ao, no, co, rfl, hno, hown, hbel⟩
  rw [Hl.out] at hno
  subst hno
  have hW : w.heap.size < w1.heap.size := by have := hbel.size; simp at this; omega
  have hown' : Own w1 w.heap.size (.slice Ao no co) m := ⟨hown.1.mono_ (by simp), hown.2⟩
  have hbel' : Below w.heap.size w w1 := ((Below.refl _ _).alloc (Nat.le_refl _) _).trans (hbel.mono (by simp))
  clear hown hbel
  go_wp2_with fail
  go_loopw [13, 49] (fun d i wr => ∃ k : Nat, k ≤ n ∧ i = .int .i64 k ∧ Below w.heap.size w wr ∧ Own wr w.heap.size (.slice Ao no co) (outTo m l k) ∧ ∀ j, j < k → ix m (m.length - l.length + j) = ix l j ∨ ix m (m.length - l.length + j) = 1 ∨ ix l j = 1) (fun _ i _ => n - (intOf i).toNat)
  case atStart => exact ⟨0, Nat.zero_le _, rfl, hbel', by rw [outTo_zero _ _ Hlong.out hp]; exact hown', fun j hj => absurd hj (by omega)⟩
  case round =>
    obtain ⟨k, hk, rfl, hb, ho, hall⟩ := hrel
    have Hall := Lib.hid hall
    clear hall
    by_cases hlt : k < n
    · have hq := h.below (hb.mono hB) (Nat.le_refl _)
      obtain ⟨b2, o2, rfl, hb2, hc2⟩ := hq.get hlt
      have hlen : no = (outTo m l k).length := by rw [outTo_length _ _ Hlong.out k (by rw [Gl.out]; omega), Hl.out]
      have Hlen := Lib.hid hlen
      clear hlen
      obtain ⟨gb, o1, rfl, hg1, hc1⟩ := (ho.ints Hlen.out).get (k := no - n + k) (by omega)
      have e0 : o1 = 0 := by
        rcases ho.1.2 with ⟨e, _⟩ | ⟨g', cap, cur, e, _⟩
        · simp at e
        · simp at e; exact e.1.2
      subst e0
      obtain ⟨r1, r2⟩ := ho.read Hlen.out (no - n + k) (by omega)
      clear hc1
      have Hnew := Lib.hid (show ix (outTo m l k) (no - n + k) = ix m (no - n + k) by
        have := outTo_ix_new m l Hlong.out k (by rw [Gl.out]; exact hlt)
        rwa [Hl.out, Gl.out] at this)
      rw [Hnew.out] at r1
      have hbase := ho.base
      have x1 := pos_ix hp (no - n + k) (by rw [Hl.out]; omega)
      have y1 := pos_ix gp k (by rw [Gl.out]; exact hlt)
      have Hset := Lib.hid (show ∀ (wr : World) (v : Int), v = max (ix m (no - n + k)) (ix l k) → Own wr w.heap.size (.slice (some ⟨gb, 0, none⟩) no co) (outTo m l k) → Own (wr.setCell ⟨gb, no - n + k, none⟩ (.int .i64 v)) w.heap.size (.slice (some ⟨gb, 0, none⟩) no co) (outTo m l (k + 1)) from fun wr v hv ho => by
        have ho' := ho.set_ Hlen.out (no - n + k) v
        have e := outTo_succ m l Hlong.out hp k (by rw [Gl.out]; exact hlt) v (by rw [Hl.out, Gl.out]; exact hv)
        rw [Hl.out, Gl.out] at e
        rw [e] at ho'
        exact ho')
      have Hsame := Lib.hid (show (ix l k = 1 ∨ ix l k = ix m (no - n + k)) → outTo m l k = outTo m l (k + 1) from fun hv => outTo_same m l Hlong.out hp k (by rw [Gl.out]; exact hlt) (by rw [Hl.out, Gl.out]; exact hv))
      have Hstep := Lib.hid (show (ix m (no - n + k) = ix l k ∨ ix m (no - n + k) = 1 ∨ ix l k = 1) → ∀ j, j < k + 1 → ix m (m.length - l.length + j) = ix l j ∨ ix m (m.length - l.length + j) = 1 ∨ ix l j = 1 from fun hf j hj => by
        by_cases e : j = k
        · subst e; rw [Hl.out, Gl.out]; exact hf
        · exact Hall.out j (by omega))
      by_cases hp1 : ix m (no - n + k) = 1
      · have Hp1 := Lib.hid hp1
        have q1 : (ix m (no - n + k) == 1) = true := by simp [hp1]
        clear hp1
        go_wp2
        go_roundw
        case rel => exact ⟨k + 1, by omega, by go_num, hb.setCell hbase _, Hset.out _ _ (by have := Hp1.out; omega) ho, Hstep.out (.inr (.inl Hp1.out))⟩
        case measure => simp [intOf]; omega
      · have q1 : (ix m (no - n + k) == 1) = false := by simp [hp1]
        have hi0 : (0 : Int) ≤ k := by omega
        have hi1 : (k : Int) < n := by omega
        by_cases hq1 : ix l k = 1
        · have Hq1 := Lib.hid hq1
          have q2 : (ix l k != 1) = false := by simp [hq1]
          clear hp1 hq1
          go_wp2
          go_quiet (fail)
          go_wp2
          go_roundw
          case rel => exact ⟨k + 1, by omega, by go_num, below_drewN hb _, by rw [← Hsame.out (.inl Hq1.out)]; exact ho.drewN _, Hstep.out (.inr (.inr Hq1.out))⟩
          case measure => simp [intOf]; omega
        · have q2 : (ix l k != 1) = true := by simp [hq1]
          by_cases hqe : ix l k = ix m (no - n + k)
          · have Hqe := Lib.hid hqe
            have q3 : (ix l k != ix m (no - n + k)) = false := by simp [hqe]
            clear hp1 hq1 hqe
            go_wp2
            go_quiet (fail)
            go_wp2
            go_roundw
            case rel => exact ⟨k + 1, by omega, by go_num, below_drewN hb _, by rw [← Hsame.out (.inr Hqe.out)]; exact ho.drewN _, Hstep.out (.inl Hqe.out.symm)⟩
            case measure => simp [intOf]; omega
          · have q3 : (ix l k != ix m (no - n + k)) = true := by simp [hqe]
            have Hno := Lib.hid (show ¬ Fits m l from fun hf => by
              have := (fits_long m l Hlong.out).1 hf k (by rw [Gl.out]; exact hlt)
              rw [Hl.out, Gl.out] at this
              omega)
            clear hp1 hq1 hqe
            go_wp2
            go_quiet (fail)
            go_wp2
            go_ret2
            exact lst_err' _ _ (below_drewN hb _) (Hunfit.out Hno.out)
    · have e : k = l.length := by rw [Gl.out]; omega
      have hfit : Fits m l := (fits_long m l Hlong.out).2 fun j hj => Hall.out j (by omega)
      rw [e, outTo_all _ _ Hlong.out] at ho
      have hoi := ho.ints (by rw [bc_length]; have := Hlong.out; rw [← Hl.out]; omega)
      have Hfit := Lib.hid hfit
      clear e hfit Hall
      rcases bad_ways (bc m l) with hgood | ⟨e2, hng, hbad⟩
      · have Hok' := Lib.hid (Hok.out Hfit.out hgood)
        have Hcc := Lib.hid (countIs_good hgood)
        clear hgood
        go_wp2_with fail
        refine (count_any _ _ _ _ _ _ hoi _ _ Hcc.out).mono ?_
        rintro e w1 ⟨rfl, rfl⟩
        go_wp2
        go_ret2
        obtain ⟨rfl, rfl⟩ := Hok'.out
        exact ⟨_, _, _, rfl, by rw [bc_length]; have := Hlong.out; rw [← Hl.out]; omega, ho, hb⟩
      · clear hng
        have Hbig' := Lib.hid (Hbig.out _ Hfit.out hbad)
        obtain ⟨hc2, rfl | rfl⟩ := hbad
        all_goals
          have Hcc := Lib.hid hc2
          clear hc2
          go_wp2_with fail
          refine (count_any _ _ _ _ _ _ hoi _ _ Hcc.out).mono ?_
          rintro e w1 ⟨rfl, rfl⟩
          go_wp2
          go_ret2
          exact lst_err' _ _ hb Hbig'.out

theorem broad_any (w : World) (B B' : Nat) (A A' : Option Addr) (n c n' c' : Nat) (l m : List Int) (h : Ints w B A n l) (g : Ints w B' A' n' m) (hB : B ≤ w.heap.size) (hB' : B' ≤ w.heap.size) (x : List Int) (err : Int) (hx : BcIs l m x err) :
    Calls Try.prog 19 #[.slice A n c, .slice A' n' c'] w (Lst w x err) := by
  by_cases hg : Good l
  · by_cases hg' : Good m
    · rcases Nat.lt_or_ge n n' with hle | hle
      · exact broad_short w B B' A A' n c n' c' l m h g hB hB' hg hg' x err hx hle
      · exact broad_long w B B' A A' n c n' c' l m h g hB hB' hg hg' x err hx hle
    · rcases hx with ⟨hb, _⟩ | ⟨_, hb, rfl⟩ | ⟨_, h1, _⟩ | ⟨_, h1, _⟩ | ⟨_, h1, _⟩
      · exact absurd hg (bad_not_good' hb)
      · exact broad_bad2 w B B' A A' n c n' c' l m h g hB hB' hg err hb
      · exact absurd h1 hg'
      · exact absurd h1 hg'
      · exact absurd h1 hg'
  · rcases hx with ⟨hb, rfl⟩ | ⟨h1, _⟩ | ⟨h1, _⟩ | ⟨h1, _⟩ | ⟨h1, _⟩
    · exact broad_bad1 w B B' A A' n c n' c' l m h hB err hb
    · exact absurd h1 hg
    · exact absurd h1 hg
    · exact absurd h1 hg
    · exact absurd h1 hg
theorem rbroad_any (w : World) (B B' : Nat) (A A' : Option Addr) (n c n' c' : Nat) (l m : List Int) (h : Ints w B A n l) (g : Ints w B' A' n' m) (hB : B ≤ w.heap.size) (hB' : B' ≤ w.heap.size) (x : List Int) (err : Int) (hx : BcIs l m x err) :
    Calls Try.prog 20 #[.slice A n c, .slice A' n' c'] w (Lst w x err) := by
  by_cases hg : Good l
  · by_cases hg' : Good m
    · exact rbroad_good w B B' A A' n c n' c' l m h g hB hB' hg hg' x err hx
    · rcases hx with ⟨hb, _⟩ | ⟨_, hb, rfl⟩ | ⟨_, h1, _⟩ | ⟨_, h1, _⟩ | ⟨_, h1, _⟩
      · exact absurd hg (bad_not_good' hb)
      · exact rbroad_bad2 w B B' A A' n c n' c' l m h g hg err hb
      · exact absurd h1 hg'
      · exact absurd h1 hg'
      · exact absurd h1 hg'
  · rcases hx with ⟨hb, rfl⟩ | ⟨h1, _⟩ | ⟨h1, _⟩ | ⟨h1, _⟩ | ⟨h1, _⟩
    · exact rbroad_bad1 w B A n c l h A' n' c' err hb
    · exact absurd h1 hg
    · exact absurd h1 hg
    · exact absurd h1 hg
    · exact absurd h1 hg
end Go.Proofs.Ytanghkleojjplaa
