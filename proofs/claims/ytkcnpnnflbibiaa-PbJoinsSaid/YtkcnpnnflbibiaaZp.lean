/- The walks: a message's gathering of fields, and its bytes. A message under way: its fields gathered, its bytes. The walks: a tensor written. -/
import Derived.Test.YtkcnpnnflbibiaaZl
import Derived.Test.YtkcnpnnflbibiaaZk
import Derived.Test.YtkcnpnnflbibiaaAi
import Derived.Deep.Cut
import Derived.Deep.CutBlock
set_option linter.unusedVariables false
/- The walks: a message's gathering of fields, and its bytes. -/
namespace Go.Proofs.Ytkcnpnnflbibiaa
open Go.RowKit

set_option maxRecDepth 100000 in
set_option maxHeartbeats 1600000 in
theorem msg_text (g : Nat) (v : Value) (l : List Fd) (num : Int) (s : ByteArray) (B : Nat) (w : World) (hg : w.heap[g]? = some (.cells #[v] 76 (0, 0))) (hown : OwnF w B v l) (hgB : g < B) (hB : B ≤ w.heap.size) (hl : l.length ≤ 16777216) :
    Calls Try.prog 33 #[.pointer (some ⟨g, 0, none⟩), .int .i64 num, .string s] w fun e w' => e = .returned (.tuple #[]) ∧ ∃ v' w1, OwnF w' B v' (l ++ [⟨num, 2, 0, s⟩]) ∧ w'.heap[g]? = some (.cells #[v'] 76 (0, 0)) ∧ w.grownBy w1 v.ownBlock ∧ w' = w1.setCell ⟨g, 0, none⟩ v' := by
  obtain ⟨i0, hi, hz0, hz1, hz2⟩ := info_parts Try.info24
  have c0 : w.cell? ⟨g, 0, none⟩ = some v := cell_of_row _ _ 0 _ 76 (0, 0) hg
  have Hg := Lib.hid hg
  have Ho := Lib.hid hown
  have hlt : g < w.heap.size := by omega
  clear hg hown
  go_enter Try.func33, Try.ntmps33
  go_wp2_with (at_builtin; refine wpList_append_f1 _ ⟨num, 2, 0, s⟩ rfl (.tmp 10) (.tmp 14) 29 rfl i0 _ rfl Try.underlying29 hi hz0 hz1 hz2 B v l rfl (Ho.out.alloc _) w.heap.size rfl (heap_alloc_new w _) (by omega) (by simp; omega) ?_; intro v' w2 ho2 hg2; obtain ⟨Aw, mw, cw, hvw⟩ : ∃ A m c, v' = .slice A m c := (by obtain ⟨A, c, e⟩ := ho2.form; exact ⟨A, _, c, e⟩); subst hvw; have hgv : w2.heap[g]? = some (.cells #[v] 76 (0, 0)) := (Ho.out.far hg2 hgB (by simp; omega)).trans ((Below.heap_alloc w _ g hlt).trans Hg.out); have q0 : w2.cell? ⟨g, 0, none⟩ = some v := cell_of_row _ _ 0 _ 76 (0, 0) hgv; have q1 : w2.frozen? ⟨g, 0, none⟩ = false := (by simp [World.frozen?, hgv]); have Hgv := Lib.hid hgv; have Ho2 := Lib.hid ho2; have Hg2 := Lib.hid hg2; clear hgv ho2 hg2)
  go_end0
  have h1 := heap_setCell_same w2 g 0 _ 76 (.slice Aw mw cw) Hgv.out
  exact ⟨rfl, _, w2, OwnF.set_far Ho2.out hgB _, by simpa using h1, grown_trans (grown_alloc w _ _) Hg2.out (fun k hk => .inl hk), rfl⟩
set_option maxRecDepth 100000 in
set_option maxHeartbeats 1600000 in
theorem msg_varint (g : Nat) (v : Value) (l : List Fd) (num x : Int) (B : Nat) (w : World) (hg : w.heap[g]? = some (.cells #[v] 76 (0, 0))) (hown : OwnF w B v l) (hgB : g < B) (hB : B ≤ w.heap.size) (hl : l.length ≤ 16777216) :
    Calls Try.prog 37 #[.pointer (some ⟨g, 0, none⟩), .int .i64 num, .int .i64 x] w fun e w' => e = .returned (.tuple #[]) ∧ ∃ v' w1, OwnF w' B v' (l ++ [⟨num, 0, IntKind.u64.wrap x, ⟨#[]⟩⟩]) ∧ w'.heap[g]? = some (.cells #[v'] 76 (0, 0)) ∧ w.grownBy w1 v.ownBlock ∧ w' = w1.setCell ⟨g, 0, none⟩ v' := by
  obtain ⟨i0, hi, hz0, hz1, hz2⟩ := info_parts Try.info24
  have c0 : w.cell? ⟨g, 0, none⟩ = some v := cell_of_row _ _ 0 _ 76 (0, 0) hg
  have Hg := Lib.hid hg
  have Ho := Lib.hid hown
  have hlt : g < w.heap.size := by omega
  clear hg hown
  go_enter Try.func37, Try.ntmps37
  go_wp2_with (at_builtin; refine wpList_append_f1 _ ⟨num, 0, IntKind.u64.wrap x, ⟨#[]⟩⟩ rfl (.tmp 10) (.tmp 15) 29 rfl i0 _ rfl Try.underlying29 hi hz0 hz1 hz2 B v l rfl (Ho.out.alloc _) w.heap.size rfl (heap_alloc_new w _) (by omega) (by simp; omega) ?_; intro v' w2 ho2 hg2; obtain ⟨Aw, mw, cw, hvw⟩ : ∃ A m c, v' = .slice A m c := (by obtain ⟨A, c, e⟩ := ho2.form; exact ⟨A, _, c, e⟩); subst hvw; have hgv : w2.heap[g]? = some (.cells #[v] 76 (0, 0)) := (Ho.out.far hg2 hgB (by simp; omega)).trans ((Below.heap_alloc w _ g hlt).trans Hg.out); have q0 : w2.cell? ⟨g, 0, none⟩ = some v := cell_of_row _ _ 0 _ 76 (0, 0) hgv; have q1 : w2.frozen? ⟨g, 0, none⟩ = false := (by simp [World.frozen?, hgv]); have Hgv := Lib.hid hgv; have Ho2 := Lib.hid ho2; have Hg2 := Lib.hid hg2; clear hgv ho2 hg2)
  go_end0
  have h1 := heap_setCell_same w2 g 0 _ 76 (.slice Aw mw cw) Hgv.out
  exact ⟨rfl, _, w2, OwnF.set_far Ho2.out hgB _, by simpa using h1, grown_trans (grown_alloc w _ _) Hg2.out (fun k hk => .inl hk), rfl⟩
/-- What a message's bytes are, or that they are too many. -/
def BytIs (l : List Fd) (w : World) (e : Ending) (w' : World) : Prop :=
  Below w.heap.size w w' ∧ ((AllGood l ∧ (textB l).size ≤ 16777216 ∧ e = .returned (.string (textB l))) ∨ (¬ (AllGood l ∧ (textB l).size ≤ 16777216) ∧ e = .panicked (refu 6)))
set_option maxRecDepth 100000 in
set_option maxHeartbeats 1600000 in
theorem msg_bytes (g : Nat) (v : Value) (l : List Fd) (B : Nat) (w : World) (hg : w.heap[g]? = some (.cells #[v] 76 (0, 0))) (hown : OwnF w B v l) (hok : ∀ f ∈ l, FdOk f) (hsz : (textB l).size ≤ 4611686018427387904) :
    Calls Try.prog 38 #[.pointer (some ⟨g, 0, none⟩)] w (BytIs l w) := by
  have c0 : w.cell? ⟨g, 0, none⟩ = some v := cell_of_row _ _ 0 _ 76 (0, 0) hg
  obtain ⟨A, c, rfl⟩ := hown.form
  obtain ⟨r, err, hw⟩ := wrIs_any l
  have HW := Lib.hid (pwrite_any l A l.length c w _ (hown.flds rfl) (Nat.le_refl _) hok hsz r err hw)
  clear hown hok hsz hg
  rcases hw with ⟨hn, rfl, rfl⟩ | ⟨hg2, hs2, rfl, rfl⟩ | ⟨hg2, hs2, rfl, rfl⟩
  · have Hn := Lib.hid (show ¬ (AllGood l ∧ (textB l).size ≤ 16777216) from fun h => hn h.1)
    clear hn
    go_enter Try.func38, Try.ntmps38
    go_wp2_with fail
    refine HW.out.mono ?_
    rintro e w1 ⟨rfl, hb⟩
    have Hb := Lib.hid hb
    clear hb
    go_wp2_with fail
    refine (must_no _ _).mono ?_
    rintro e w2 ⟨rfl, rfl⟩
    exact ⟨rfl, Hb.out, .inr ⟨Hn.out, rfl⟩⟩
  · have Hn := Lib.hid (show ¬ (AllGood l ∧ (textB l).size ≤ 16777216) from fun h => by omega)
    clear hg2 hs2
    go_enter Try.func38, Try.ntmps38
    go_wp2_with fail
    refine HW.out.mono ?_
    rintro e w1 ⟨rfl, hb⟩
    have Hb := Lib.hid hb
    clear hb
    go_wp2_with fail
    refine (must_no _ _).mono ?_
    rintro e w2 ⟨rfl, rfl⟩
    exact ⟨rfl, Hb.out, .inr ⟨Hn.out, rfl⟩⟩
  · have Hg2 := Lib.hid hg2
    have Hs2 := Lib.hid hs2
    clear hg2 hs2
    go_enter Try.func38, Try.ntmps38
    go_wp2_with fail
    refine HW.out.mono ?_
    rintro e w1 ⟨rfl, hb⟩
    have Hb := Lib.hid hb
    clear hb
    go_wp2_with fail
    refine (must_yes _ _).mono ?_
    rintro e w2 ⟨rfl, rfl⟩
    go_wp2
    go_ret
    exact ⟨Hb.out, .inl ⟨Hg2.out, Hs2.out, rfl⟩⟩
end Go.Proofs.Ytkcnpnnflbibiaa

/- A message under way: its fields gathered, its bytes. -/
namespace Go.Proofs.Ytkcnpnnflbibiaa
open Go.RowKit

/-- The message in block g, since the world w0. -/
structure Msg (w0 : World) (g : Nat) (w : World) (l : List Fd) : Prop where
  lt : g < w0.heap.size
  only : Only g w0 w
  at_ : ∃ v, w.heap[g]? = some (.cells #[v] 76 (0, 0)) ∧ OwnF w w0.heap.size v l
section
variable {w0 w w' w1 : World} {g g' : Nat} {l m : List Fd}
theorem Msg.start (h : w0.heap[g]? = some (.cells #[.slice none 0 0] 76 (0, 0))) : Msg w0 g w0 [] :=
  ⟨(Array.getElem?_eq_some_iff.1 h).1, Only.refl _ _, _, h, ownF_nil _ _⟩
theorem Msg.begun (w : World) : Msg (w.alloc (.cells #[.slice none 0 0] 76)) w.heap.size (w.alloc (.cells #[.slice none 0 0] 76)) [] := Msg.start (heap_alloc_new w _)
theorem Msg.below (h : Msg w0 g w l) (hb : Below w.heap.size w w') : Msg w0 g w' l := by
  obtain ⟨v, h1, h2⟩ := h.at_
  exact ⟨h.lt, only_below h.only hb, v, (hb.block g (Nat.lt_of_lt_of_le h.lt h.only.size)).trans h1, h2.below hb⟩
/-- Another message, begun later, leaves it. -/
theorem Msg.over (h : Msg w0 g w l) (hm : Msg w g' w' m) (h1 : w0.heap.size ≤ g') (hc : ∃ v, w.heap[g']? = some (.cells #[v] 76 (0, 0))) : Msg w0 g w' l := by
  obtain ⟨v, h3, h2⟩ := h.at_
  obtain ⟨u, hu⟩ := hc
  have ho := hm.only
  have hlt := h.lt
  refine ⟨h.lt, ⟨ho.os.trans h.only.os, ho.tape.trans h.only.tape, ho.output.trans h.only.output, Nat.le_trans h.only.size ho.size, fun k hk hne => (ho.block k (Nat.lt_of_lt_of_le hk h.only.size) (by omega)).trans (h.only.block k hk hne)⟩, v, (ho.block g (Nat.lt_of_lt_of_le h.lt h.only.size) (by omega)).trans h3, ⟨h2.1.1, ?_⟩, h2.2⟩
  rcases h2.1.2 with h4 | ⟨b, cap, cur, e1, hB, hb, r⟩
  · exact .inl h4
  · refine .inr ⟨b, cap, cur, e1, hB, ?_, r⟩
    have hbl : b < w.heap.size := (Array.getElem?_eq_some_iff.1 hb).1
    have hne : b ≠ g' := by
      intro e
      subst e
      rw [hu] at hb
      simp at hb
    exact (ho.block b hbl hne).trans hb
theorem Msg.cell (h : Msg w0 g w l) {k : Nat} (hk : k < w0.heap.size) (hne : k ≠ g) : w.heap[k]? = w0.heap[k]? := h.only.block k hk hne
theorem Msg.belowOf {B : Nat} (h : Msg w0 g w l) (hb : Below B w1 w0) (hg : B ≤ g) (hB : B ≤ w0.heap.size) : Below B w1 w := hb.trans (h.only.below hg hB)
end
/-- What a message's operation leaves. -/
def MsgIs (w0 : World) (g : Nat) (l : List Fd) (e : Ending) (w' : World) : Prop := e = .returned (.tuple #[]) ∧ Msg w0 g w' l
theorem mtext {w0 w : World} {g : Nat} {l : List Fd} (h : Msg w0 g w l) (hl : l.length ≤ 16777216) (num : Int) (s : ByteArray) : Calls Try.prog 33 #[.pointer (some ⟨g, 0, none⟩), .int .i64 num, .string s] w (MsgIs w0 g (l ++ [⟨num, 2, 0, s⟩])) := by
  obtain ⟨v, h1, h2⟩ := h.at_
  refine (msg_text g v l num s w0.heap.size w h1 h2 h.lt h.only.size hl).mono ?_
  rintro e w' ⟨rfl, v', w1, ho, hg, hgr, rfl⟩
  exact ⟨rfl, h.lt, (only_grown h.only hgr fun k hk => (World.ownsRow.lt h2.1 k hk).1).set_ _ _, v', hg, ho⟩
theorem mvarint {w0 w : World} {g : Nat} {l : List Fd} (h : Msg w0 g w l) (hl : l.length ≤ 16777216) (num x : Int) : Calls Try.prog 37 #[.pointer (some ⟨g, 0, none⟩), .int .i64 num, .int .i64 x] w (MsgIs w0 g (l ++ [⟨num, 0, IntKind.u64.wrap x, ⟨#[]⟩⟩])) := by
  obtain ⟨v, h1, h2⟩ := h.at_
  refine (msg_varint g v l num x w0.heap.size w h1 h2 h.lt h.only.size hl).mono ?_
  rintro e w' ⟨rfl, v', w1, ho, hg, hgr, rfl⟩
  exact ⟨rfl, h.lt, (only_grown h.only hgr fun k hk => (World.ownsRow.lt h2.1 k hk).1).set_ _ _, v', hg, ho⟩

/-- A bound of the bytes. -/
def bulk : List Fd → Nat
  | [] => 0
  | f :: l => f.b.size + 20 + bulk l
theorem bulk_app (l m : List Fd) : bulk (l ++ m) = bulk l + bulk m := by
  induction l with
  | nil => simp [bulk]
  | cons f l ih => simp only [List.cons_append, bulk, ih]; omega
theorem form_le (f : Fd) : (formB f).size ≤ f.b.size + 20 := by
  unfold formB headB
  rw [size_app]
  have h1 := venc_sz (f.num * 8 + f.kind)
  have h2 : (contB f).size ≤ f.b.size + 10 := by
    unfold contB
    split
    · have := venc_sz f.u; omega
    split
    · rw [leS_size]; omega
    split
    · rw [leS_size]; omega
    · rw [size_app]
      have := venc_sz (f.b.size : Int); omega
  omega
theorem text_le (l : List Fd) : (textB l).size ≤ bulk l := by
  induction l with
  | nil => exact Nat.le_refl _
  | cons f l ih =>
    simp only [textB, bulk]
    rw [size_app]
    have := form_le f
    omega
theorem mbytes {w0 w : World} {g : Nat} {l : List Fd} (h : Msg w0 g w l) (hok : ∀ f ∈ l, FdOk f) (hsz : bulk l ≤ 4611686018427387904) : Calls Try.prog 38 #[.pointer (some ⟨g, 0, none⟩)] w (BytIs l w) := by
  obtain ⟨v, h1, h2⟩ := h.at_
  exact msg_bytes g v l _ w h1 h2 hok (Nat.le_trans (text_le l) hsz)
/-- The plain bytes of a message. -/
instance (f : Fd) : Decidable (GoodF f) := inferInstanceAs (Decidable (_ ∧ _))
instance (l : List Fd) : Decidable (AllGood l) := inferInstanceAs (Decidable (∀ f ∈ l, _))
def bytE (l : List Fd) : Except Int ByteArray := if AllGood l ∧ (textB l).size ≤ 16777216 then .ok (textB l) else .error 6
theorem bytE_size {l : List Fd} {b : ByteArray} (h : bytE l = .ok b) : b.size ≤ 16777216 ∧ AllGood l ∧ b = textB l := by
  unfold bytE at h
  split at h
  · next h1 => cases h; exact ⟨h1.2, h1.1, rfl⟩
  · cases h
theorem bytE_err {l : List Fd} {e : Int} (h : bytE l = .error e) : e = 6 := by
  unfold bytE at h
  split at h
  · cases h
  · cases h; rfl
/-- What a writer leaves. -/
def WroteIs (r : Except Int ByteArray) (w : World) (e : Ending) (w' : World) : Prop := Below w.heap.size w w' ∧ ((∃ b, r = .ok b ∧ e = .returned (.string b)) ∨ (∃ err, r = .error err ∧ e = .panicked (refu err)))
theorem bytIs_wrote {l : List Fd} {w w' : World} {e : Ending} (h : BytIs l w e w') : WroteIs (bytE l) w e w' := by
  refine ⟨h.1, ?_⟩
  rcases h.2 with ⟨h1, h2, h3⟩ | ⟨h1, h2⟩
  · exact .inl ⟨_, by unfold bytE; rw [if_pos ⟨h1, h2⟩], h3⟩
  · exact .inr ⟨_, by unfold bytE; rw [if_neg h1], h2⟩
theorem wrote {w0 w : World} {g : Nat} {l : List Fd} (h : Msg w0 g w l) (hok : ∀ f ∈ l, FdOk f) (hsz : bulk l ≤ 4611686018427387904) : Calls Try.prog 38 #[.pointer (some ⟨g, 0, none⟩)] w (WroteIs (bytE l) w) := (mbytes h hok hsz).mono fun _ _ => bytIs_wrote
theorem wrote_no {r : Except Int ByteArray} {w w' : World} {err : Int} (hb : Below w.heap.size w w') (h : r = .error err) : WroteIs r w (.panicked (refu err)) w' := ⟨hb, .inr ⟨err, h, rfl⟩⟩
theorem wrote_yes {r : Except Int ByteArray} {w w' : World} {b : ByteArray} (hb : Below w.heap.size w w') (h : r = .ok b) : WroteIs r w (.returned (.string b)) w' := ⟨hb, .inl ⟨b, h, rfl⟩⟩
theorem u64w (x : Int) : 0 ≤ IntKind.u64.wrap x ∧ IntKind.u64.wrap x < B64 := u64_bd x
theorem fdOk_v (num x : Int) (h0 : 0 ≤ num) (h1 : num ≤ 1000) : FdOk ⟨num, 0, IntKind.u64.wrap x, ⟨#[]⟩⟩ := ⟨by dsimp only; omega, by dsimp only; omega, by dsimp only; omega, by dsimp only; omega, (u64w x).1, (u64w x).2, by exact Nat.zero_le _⟩
theorem fdOk_t (num : Int) (s : ByteArray) (h0 : 0 ≤ num) (h1 : num ≤ 1000) (hs : s.size ≤ 140737488351232) : FdOk ⟨num, 2, 0, s⟩ := ⟨by dsimp only; omega, by dsimp only; omega, by dsimp only; omega, by dsimp only; omega, by show (0 : Int) ≤ 0; omega, by show (0 : Int) < B64; unfold B64; omega, hs⟩
end Go.Proofs.Ytkcnpnnflbibiaa

/- The walks: a tensor written. -/
namespace Go.Proofs.Ytkcnpnnflbibiaa
open Go.RowKit

def packB (typ x : Int) : List Int := if typ = 1 then leS 4 x else venc (IntKind.u64.wrap x)
def packed (typ : Int) : List Int → List Int
  | [] => []
  | x :: l => packB typ x ++ packed typ l
theorem packed_app (typ : Int) (l m : List Int) : packed typ (l ++ m) = packed typ l ++ packed typ m := by
  induction l with
  | nil => rfl
  | cons x l ih => simp only [List.cons_append, packed, ih, List.append_assoc]
theorem packB_len (typ x : Int) : (packB typ x).length ≤ 10 := by
  unfold packB
  split
  · simp [leS]
  · exact (vencF_len 9 _).2
theorem packed_len (typ : Int) (l : List Int) : (packed typ l).length ≤ 10 * l.length := by
  induction l with
  | nil => simp [packed]
  | cons x l ih =>
    have := packB_len typ x
    simp only [packed, List.length_append, List.length_cons]; omega
def atOf (typ : Int) : Int := if typ = 1 then 4 else if typ = 7 then 7 else 5
def dimFds (l : List Int) : List Fd := l.map fun d => ⟨1, 0, IntKind.u64.wrap d, ⟨#[]⟩⟩
theorem dimFds_take (l : List Int) (k : Nat) (h : k < l.length) : dimFds (l.take k) ++ [⟨1, 0, IntKind.u64.wrap (ix l k), ⟨#[]⟩⟩] = dimFds (l.take (k + 1)) := by
  rw [take_ix l k h]; simp [dimFds]
def tenFds (name : ByteArray) (t : Tn) : List Fd :=
  ((dimFds t.dims ++ [⟨2, 0, IntKind.u64.wrap t.typ, ⟨#[]⟩⟩]) ++ [⟨atOf t.typ, 2, 0, strOfNums (packed t.typ t.data)⟩]) ++ [⟨8, 2, 0, name⟩]
theorem strOf_size (l : List Int) : (strOfNums l).size = l.length := by unfold strOfNums; simp [ByteArray.size]
theorem dim_ok (l : List Int) : ∀ f ∈ dimFds l, FdOk f := by
  intro f hf
  simp only [dimFds, List.mem_map] at hf
  obtain ⟨d, _, rfl⟩ := hf
  exact fdOk_v 1 d (by omega) (by omega)
theorem ten_ok {name : ByteArray} {t : Tn} (hn : name.size ≤ 1000) (hd : t.data.length ≤ 65536) : ∀ f ∈ tenFds name t, FdOk f := by
  intro f hf
  simp only [tenFds, List.mem_append, List.mem_singleton] at hf
  have h := packed_len t.typ t.data
  rcases hf with ((hf | rfl) | rfl) | rfl
  · exact dim_ok _ f hf
  · exact fdOk_v 2 _ (by omega) (by omega)
  · refine fdOk_t _ _ ?_ ?_ (by rw [strOf_size]; omega) <;> (unfold atOf; split <;> (try split) <;> omega)
  · exact fdOk_t 8 _ (by omega) (by omega) (by omega)
theorem dim_bulk (l : List Int) : bulk (dimFds l) = 20 * l.length := by
  induction l with
  | nil => rfl
  | cons x l ih =>
    simp only [dimFds, List.map_cons, bulk, List.length_cons] at ih ⊢
    have h0 : (⟨#[]⟩ : ByteArray).size = 0 := rfl
    omega
theorem ten_bulk {name : ByteArray} {t : Tn} (hn : name.size ≤ 1000) (hd : t.data.length ≤ 65536) (hr : t.dims.length ≤ 6) : bulk (tenFds name t) ≤ 1000000 := by
  have h := packed_len t.typ t.data
  have h0 : (⟨#[]⟩ : ByteArray).size = 0 := rfl
  simp only [tenFds, bulk_app, dim_bulk, bulk, strOf_size]
  omega
theorem leS4 (x : Int) : leS 4 x = [x % 256, x / 256 % 256, x / 65536 % 256, x / 16777216 % 256] := by
  simp [leS, List.range, List.range.loop, byt]
theorem packB_byte (typ x : Int) : ∀ y ∈ packB typ x, 0 ≤ y ∧ y < 256 := by
  unfold packB
  split
  · exact leS_byte 4 x
  · exact vencF_byte 9 _ (u64w x).1
theorem packed_byte (typ : Int) (l : List Int) : ∀ y ∈ packed typ l, 0 ≤ y ∧ y < 256 := by
  induction l with
  | nil => intro y hy; cases hy
  | cons x l ih =>
    intro y hy
    simp only [packed, List.mem_append] at hy
    rcases hy with hy | hy
    · exact packB_byte typ x y hy
    · exact ih y hy
theorem bytesOf_str (l : List Int) (h : ∀ x ∈ l, 0 ≤ x ∧ x < 256) : bytesOf (strOfNums l) = l := by
  unfold bytesOf strOfNums
  simp only [List.map_map]
  conv => rhs; rw [← List.map_id l]
  refine List.map_congr_left fun x hx => ?_
  obtain ⟨h0, h1⟩ := h x hx
  simp only [Function.comp, id]
  have h2 : x.toNat < 256 := by omega
  rw [UInt8.toNat_ofNat']
  omega
/-- Four bytes more. -/
theorem wpList_append_b4 {P : Program} (w : World) (x0 x1 x2 x3 : Int) {ops : Array Oper} {rest : List Oper} {o : Oper} {a : Act} {Q : Exit → Act → World → Prop} (hgd : o.guard = none) (s y : Operand) (t : TypeId)
    (ho : o.op = .call { callee := .builtin .append, args := #[s, y], argTypes := #[t, t] })
    (i : TypeInfo) (z : Value) (hzc : z.cells.size = 1) (ht : P.underlying t = some (.slice 5)) (hi : P.info? 5 = some i) (hz : i.zero = some z) (hsize : i.size = 1) (hby : i.bytes = 1)
    (B : Nat) (v : Value) (l : List Int) (hs : a.eval s = v) (hown : OwnB w B v l) (hx : a.eval y = .slice (some ⟨w.heap.size, 0, none⟩) 4 4)
    (hlen : l.length + 4 ≤ 140737488355328) (hbase : B ≤ w.heap.size)
    (h : ∀ v' w', OwnB w' B v' (l ++ [x0, x1, x2, x3]) → w.grownBy w' v.ownBlock → wpList P ops Q rest (a.put o.dst v') w') : wpList P ops Q (o :: rest) a (w.alloc (.cells #[.int .u8 x0, .int .u8 x1, .int .u8 x2, .int .u8 x3] 5)) := by
  have hnew := heap_alloc_new w (.cells #[.int .u8 x0, .int .u8 x1, .int .u8 x2, .int .u8 x3] 5)
  have ho1 := hown.below ((Below.refl w.heap.size w).alloc (Nat.le_refl _) (.cells #[.int .u8 x0, .int .u8 x1, .int .u8 x2, .int .u8 x3] 5))
  refine wpList_append_any _ hgd s y t ho B 5 i z 1 1 ht hi hz hsize hby hzc (by decide) v l.length (l.map (Value.int .u8)) hs ho1.1 (w.heap.size + 1) (some ⟨w.heap.size, 0, none⟩) 4 4 [.int .u8 x0, .int .u8 x1, .int .u8 x2, .int .u8 x3] hx ⟨by simp, fun _ => ⟨_, rfl, by simp, fun j u hu => ?_⟩⟩ (by simp [Value.oneCell']) (by unfold maxLen; omega) (by omega) (by simp; omega) ?_
  · have ea : (⟨w.heap.size, 0, none⟩ : Addr).add j = ⟨w.heap.size, j, none⟩ := by
      unfold Addr.add
      split
      · rename_i h; subst h; rfl
      · simp
    rw [ea, cell_of_row _ _ j _ 5 (0, 0) hnew]
    simpa using hu
  · intro v' w' h1 h2 h3
    refine h v' w' ⟨by simpa using h1, by unfold maxLen; simp; omega⟩ (grown_trans (grown_alloc w _ _) h2 (fun k hk => .inl hk))
set_option maxRecDepth 100000 in
set_option maxHeartbeats 1600000 in
theorem wtensor_any (name : ByteArray) (t : Tn) (w : World) (B : Nat) (A A' : Option Addr) (n c n' c' : Nat) (hd : Ints w B A n t.dims) (he : Ints w B A' n' t.data) (hB : B ≤ w.heap.size) (hn : name.size ≤ 1000) (h6 : t.dims.length ≤ 6) (h65 : t.data.length ≤ 65536) :
    Calls Try.prog 35 #[.string name, .agg #[.int .i64 t.typ, .slice A n c, .slice A' n' c']] w (WroteIs (bytE (tenFds name t)) w) := by
  have hb0 : Below w.heap.size w ((w.alloc (.cells #[.int .i64 t.typ, .slice A n c, .slice A' n' c'] 47)).alloc (.cells #[.slice none 0 0] 76)) := ((Below.refl _ _).alloc (Nat.le_refl _) _).alloc (by simp) _
  have hg0 := (Below.heap_alloc (w.alloc (.cells #[.int .i64 t.typ, .slice A n c, .slice A' n' c'] 47)) (.cells #[.slice none 0 0] 76) w.heap.size (by simp)).trans (heap_alloc_new w (.cells #[.int .i64 t.typ, .slice A n c, .slice A' n' c'] 47))
  have hm0 := heap_second w (.cells #[.int .i64 t.typ, .slice A n c, .slice A' n' c'] 47) (.cells #[.slice none 0 0] 76) (w.heap.size + 1) rfl
  have hz0 : ((w.alloc (.cells #[.int .i64 t.typ, .slice A n c, .slice A' n' c'] 47)).alloc (.cells #[.slice none 0 0] 76)).heap.size = w.heap.size + 2 := by simp
  have HM0 := Lib.hid (Msg.start hm0)
  have HD0 := Lib.hid (hd.below (hb0.mono hB) (Nat.le_refl _))
  have HE0 := Lib.hid (he.below (hb0.mono hB) (Nat.le_refl _))
  have HB0 := Lib.hid hb0
  have HG0 := Lib.hid hg0
  have c0 : ((w.alloc (.cells #[.int .i64 t.typ, .slice A n c, .slice A' n' c'] 47)).alloc (.cells #[.slice none 0 0] 76)).cell? ⟨w.heap.size, 0, none⟩ = some (.int .i64 t.typ) := cell_of_row _ _ 0 _ 47 (0, 0) hg0
  have c1 : ((w.alloc (.cells #[.int .i64 t.typ, .slice A n c, .slice A' n' c'] 47)).alloc (.cells #[.slice none 0 0] 76)).cell? ⟨w.heap.size, 1, none⟩ = some (.slice A n c) := cell_of_row _ _ 1 _ 47 (0, 0) hg0
  have c2 : ((w.alloc (.cells #[.int .i64 t.typ, .slice A n c, .slice A' n' c'] 47)).alloc (.cells #[.slice none 0 0] 76)).cell? ⟨w.heap.size, 2, none⟩ = some (.slice A' n' c') := cell_of_row _ _ 2 _ 47 (0, 0) hg0
  have hn1 := hd.int
  have hn2 := he.int
  have hl1 := hd.len
  have hl2 := he.len
  have Hl1 := Lib.hid hl1
  have Hl2 := Lib.hid hl2
  rw [hl1] at h6
  rw [hl2] at h65
  clear hb0 hg0 hm0 hd he hl1 hl2
  go_enter Try.func35, Try.ntmps35
  go_wp2_with fail
  generalize ((w.alloc (.cells #[.int .i64 t.typ, .slice A n c, .slice A' n' c'] 47)).alloc (.cells #[.slice none 0 0] 76)) = w0 at HM0 HD0 HE0 HB0 HG0 hz0 c0 c1 c2 ⊢
  go_loopw [7, 17] (fun u7 i wr => ∃ k : Nat, k ≤ n ∧ i = .int .i64 k ∧ Msg w0 (w.heap.size + 1) wr (dimFds (t.dims.take k))) (fun _ i _ => n - (intOf i).toNat)
  case atStart => exact ⟨0, by omega, rfl, HM0.out⟩
  case round =>
    obtain ⟨k, hk, rfl, hm⟩ := hrel
    have HM := Lib.hid hm
    have Hbw := Lib.hid (hm.belowOf HB0.out (by omega) (by omega))
    have zr := hm.only.size
    have hgr := (hm.cell (k := w.heap.size) (by omega) (by omega)).trans HG0.out
    have HGr := Lib.hid hgr
    clear hm
    by_cases hlt : k < n
    · obtain ⟨bd, od, hA, hbB, hc⟩ := HD0.out.get hlt
      have hc := (Hbw.out.cell (p := ⟨bd, od + k, none⟩) (by exact Nat.lt_of_lt_of_le hbB hB)).trans ((HB0.out.cell (p := ⟨bd, od + k, none⟩) (by exact Nat.lt_of_lt_of_le hbB hB)).symm.trans hc)
      subst hA
      have hlen : (dimFds (t.dims.take k)).length ≤ 16777216 := by simp [dimFds]; omega
      have HT := Lib.hid (dimFds_take t.dims k (by rw [Hl1.out]; exact hlt))
      have HV := Lib.hid (mvarint HM.out hlen 1 (ix t.dims k))
      clear hgr
      go_wp2_with fail
      refine HV.out.mono ?_
      rintro e w1 ⟨rfl, hm1⟩
      have HM1 := Lib.hid (HT.out ▸ hm1)
      clear hm1
      go_wp2
      go_roundw
      case rel => exact ⟨k + 1, by omega, by go_num, HM1.out⟩
      case measure => simp [intOf]; omega
    · obtain rfl : k = n := by omega
      have hall : dimFds (t.dims.take k) = dimFds t.dims := by rw [← Hl1.out, List.take_length]
      have HMa := Lib.hid (hall ▸ HM.out)
      have r0 : wr.cell? ⟨w.heap.size, 0, none⟩ = some (.int .i64 t.typ) := cell_of_row _ _ 0 _ 47 (0, 0) hgr
      have hdl : (dimFds t.dims).length ≤ 16777216 := by simp [dimFds, Hl1.out]; omega
      have HV := Lib.hid (mvarint HMa.out hdl 2 t.typ)
      clear hall hgr hdl
      go_wp2_with fail
      refine HV.out.mono ?_
      rintro e w1 ⟨rfl, hm1⟩
      have HM1 := Lib.hid hm1
      have z1 := hm1.only.size
      have hg1 := (hm1.cell (k := w.heap.size) (by omega) (by omega)).trans HG0.out
      have HG1 := Lib.hid hg1
      have Hb1 := Lib.hid (hm1.belowOf HB0.out (by omega) (by omega))
      have d2 : w1.cell? ⟨w.heap.size, 2, none⟩ = some (.slice A' n' c') := cell_of_row _ _ 2 _ 47 (0, 0) hg1
      clear hm1 hg1
      by_cases h1 : t.typ = 1
      · go_wp2_with fail
        go_loopw [8, 10, 32] (fun v8 u10 i wr2 => ∃ q : Nat, q ≤ n' ∧ i = .int .i64 q ∧ OwnB wr2 w1.heap.size v8 (packed t.typ (t.data.take q)) ∧ Below w1.heap.size w1 wr2) (fun _ _ i _ => n' - (intOf i).toNat)
        case atStart => exact ⟨0, by omega, rfl, ownB_nil _ _, Below.refl _ _⟩
        case round =>
          obtain ⟨q, hq, rfl, hown, hbl⟩ := hrel
          rename_i v8 _
          have Ho := Lib.hid hown
          have Hbl := Lib.hid hbl
          have z2 := hbl.size
          have g0 : wr.cell? ⟨w.heap.size, 0, none⟩ = some (.int .i64 t.typ) := (hbl.cell (by dsimp only; omega)).trans (cell_of_row _ _ 0 _ 47 (0, 0) HG1.out)
          obtain ⟨A8, c8, h8⟩ := ownB_form hown
          subst h8
          clear hown hbl
          by_cases hlt2 : q < n'
          · obtain ⟨bd, od, hA, hbB, hc⟩ := HE0.out.get hlt2
            have hc := (Hbl.out.cell (p := ⟨bd, od + q, none⟩) (by dsimp only; omega)).trans ((Hb1.out.cell (p := ⟨bd, od + q, none⟩) (by exact Nat.lt_of_lt_of_le hbB hB)).trans ((HB0.out.cell (p := ⟨bd, od + q, none⟩) (by exact Nat.lt_of_lt_of_le hbB hB)).symm.trans hc))
            subst hA
            have hpl := packed_len t.typ (t.data.take q)
            have htl : (t.data.take q).length ≤ n' := by simp; omega
            have Hpk := Lib.hid (show packed t.typ (t.data.take q) ++ leS 4 (ix t.data q) = packed t.typ (t.data.take (q + 1)) by rw [take_ix t.data q (by rw [Hl2.out]; exact hlt2), packed_app]; simp [packed, packB, h1])
            have e1 : (t.typ == 1) = true := by simpa using h1
            obtain ⟨i5, hi5, hz50, hz51, hz52⟩ := info_parts Try.info5
            go_wp2_with (at_builtin; refine wpList_append_b4 wr _ _ _ _ rfl (.tmp 45) (.tmp 57) 51 rfl i5 _ rfl Try.underlying51 hi5 hz50 hz51 hz52 w1.heap.size _ _ rfl Ho.out rfl (by omega) (by omega) ?_; intro v' w4 ho4 hg4)
            have Ho4 := Lib.hid (Hpk.out ▸ (leS4 (ix t.data q) ▸ ho4))
            have Hb4 := Lib.hid (Hbl.out.grown hg4 Hbl.out.size (fun k hk => (World.ownsRow.lt Ho.out.1 k hk).1))
            clear ho4 hg4
            go_roundw
            case rel => exact ⟨q + 1, by omega, by go_num, Ho4.out, Hb4.out⟩
            case measure => simp [intOf]; omega
          · obtain rfl : q = n' := by omega
            have hall : packed t.typ (t.data.take q) = packed t.typ t.data := by rw [← Hl2.out, List.take_length]
            have Hoa := Lib.hid (hall ▸ Ho.out)
            rw [hall]
            clear hall
            have HMm := Lib.hid (HM1.out.below (Hbl.out))
            have e1 : (t.typ == 1) = true := by simpa using h1
            have Hcv := run_string_own (P := Try.prog) wr 51 9 Try.underlying51 Try.underlying5 Try.underlying9 _ _ _ Hoa.out
            have hpl := packed_len t.typ t.data
            have htl : t.data.length = q := Hl2.out
            have hfl1 : (dimFds t.dims ++ [Fd.mk 2 0 (IntKind.u64.wrap t.typ) ⟨#[]⟩]).length ≤ 16777215 := by simp [dimFds, Hl1.out]; omega
            have HX := Lib.hid (mtext HMm.out (by omega) 4 (strOfNums (packed t.typ t.data)))
            have Hfin := Lib.hid (show tenFds name t = (dimFds t.dims ++ [Fd.mk 2 0 (IntKind.u64.wrap t.typ) ⟨#[]⟩]) ++ [Fd.mk 4 2 0 (strOfNums (packed t.typ t.data))] ++ [⟨8, 2, 0, name⟩] by unfold tenFds atOf; simp [h1])
            have hfl2 : ((dimFds t.dims ++ [Fd.mk 2 0 (IntKind.u64.wrap t.typ) ⟨#[]⟩]) ++ [Fd.mk 4 2 0 (strOfNums (packed t.typ t.data))]).length ≤ 16777216 := by rw [List.length_append]; exact Nat.succ_le_succ hfl1
            clear hfl1 htl hpl h1
            go_wp2_with fail
            refine HX.out.mono ?_
            rintro e w5 ⟨rfl, hm5⟩
            have HY := Lib.hid (mtext hm5 hfl2 8 name)
            clear hm5 hfl2
            go_wp2_with fail
            refine HY.out.mono ?_
            rintro e w6 ⟨rfl, hm6⟩
            have HZ := Lib.hid (wrote (Hfin.out ▸ hm6) (ten_ok hn (by rw [Hl2.out]; omega)) (Nat.le_trans (ten_bulk hn (by rw [Hl2.out]; omega) (by rw [Hl1.out]; omega)) (by omega)))
            have Hb6 := Lib.hid (hm6.belowOf HB0.out (by omega) (by omega))
            clear hm6
            go_wp2_with fail
            refine HZ.out.mono ?_
            rintro e w7 ⟨hb7, ⟨b, hb, rfl⟩ | ⟨err, hb, rfl⟩⟩
            · have Hb := Lib.hid hb
              have Hb7 := Lib.hid (Hb6.out.trans (hb7.mono Hb6.out.size))
              clear hb hb7
              go_wp2
              go_ret
              exact wrote_yes Hb7.out Hb.out
            · exact ⟨rfl, wrote_no (Hb6.out.trans (hb7.mono Hb6.out.size)) hb⟩
      · go_wp2_with fail
        go_loopw [8, 10, 32] (fun v8 u10 i wr2 => ∃ q : Nat, q ≤ n' ∧ i = .int .i64 q ∧ OwnB wr2 w1.heap.size v8 (packed t.typ (t.data.take q)) ∧ Below w1.heap.size w1 wr2) (fun _ _ i _ => n' - (intOf i).toNat)
        case atStart => exact ⟨0, by omega, rfl, ownB_nil _ _, Below.refl _ _⟩
        case round =>
          obtain ⟨q, hq, rfl, hown, hbl⟩ := hrel
          rename_i v8 _
          have Ho := Lib.hid hown
          have Hbl := Lib.hid hbl
          have z2 := hbl.size
          have g0 : wr.cell? ⟨w.heap.size, 0, none⟩ = some (.int .i64 t.typ) := (hbl.cell (by dsimp only; omega)).trans (cell_of_row _ _ 0 _ 47 (0, 0) HG1.out)
          obtain ⟨A8, c8, h8⟩ := ownB_form hown
          subst h8
          clear hown hbl
          by_cases hlt2 : q < n'
          · obtain ⟨bd, od, hA, hbB, hc⟩ := HE0.out.get hlt2
            have hc := (Hbl.out.cell (p := ⟨bd, od + q, none⟩) (by dsimp only; omega)).trans ((Hb1.out.cell (p := ⟨bd, od + q, none⟩) (by exact Nat.lt_of_lt_of_le hbB hB)).trans ((HB0.out.cell (p := ⟨bd, od + q, none⟩) (by exact Nat.lt_of_lt_of_le hbB hB)).symm.trans hc))
            subst hA
            have hpl := packed_len t.typ (t.data.take q)
            have htl : (t.data.take q).length ≤ n' := by simp; omega
            have Hpk := Lib.hid (show packed t.typ (t.data.take q) ++ venc (IntKind.u64.wrap (ix t.data q)) = packed t.typ (t.data.take (q + 1)) by rw [take_ix t.data q (by rw [Hl2.out]; exact hlt2), packed_app]; simp [packed, packB, h1])
            have e1 : (t.typ == 1) = false := by simpa using h1
            obtain ⟨i5, hi5, hz50, hz51, hz52⟩ := info_parts Try.info5
            have HW := Lib.hid (fun w => varint_w (IntKind.u64.wrap (ix t.data q)) w (u64w _).1 (u64w _).2)
            go_wp2_with fail
            refine (HW.out _).mono ?_
            rintro e w3 ⟨rfl, hb3⟩
            have Ho3 := Lib.hid (show OwnS w3 w1.heap.size (.slice A8 (packed t.typ (t.data.take q)).length c8) (strOfNums (packed t.typ (t.data.take q))) from by
              unfold OwnS; rw [bytesOf_str _ (packed_byte _ _)]; exact Ho.out.below hb3)
            have z3 := hb3.size
            have Hbl3 := Lib.hid (Hbl.out.trans (hb3.mono Hbl.out.size))
            have hsp := strOf_size (packed t.typ (t.data.take q))
            have hsv := venc_sz (IntKind.u64.wrap (ix t.data q))
            clear hb3
            go_wp2_with (at_builtin; refine wpList_append_s _ rfl (.tmp 38) (.tmp 41) 51 9 rfl i5 Try.underlying51 Try.underlying9 hi5 hz50 hz51 hz52 w1.heap.size _ (strOfNums (packed t.typ (t.data.take q))) rfl Ho3.out (strOfNums (venc (IntKind.u64.wrap (ix t.data q)))) rfl (by omega) (by omega) ?_; intro v' w4 ho4 hg4)
            have Ho4 := Lib.hid (show OwnB w4 w1.heap.size v' (packed t.typ (t.data.take (q + 1))) from by
              unfold OwnS at ho4; rw [← str_app, Hpk.out, bytesOf_str _ (packed_byte _ _)] at ho4; exact ho4)
            have Hb4 := Lib.hid (Hbl3.out.grown hg4 Hbl3.out.size (fun k hk => (World.ownsRow.lt Ho3.out.1 k hk).1))
            clear ho4 hg4
            go_roundw
            case rel => exact ⟨q + 1, by omega, by go_num, Ho4.out, Hb4.out⟩
            case measure => simp [intOf]; omega
          · obtain rfl : q = n' := by omega
            have hall : packed t.typ (t.data.take q) = packed t.typ t.data := by rw [← Hl2.out, List.take_length]
            have Hoa := Lib.hid (hall ▸ Ho.out)
            rw [hall]
            clear hall
            have HMm := Lib.hid (HM1.out.below (Hbl.out))
            have e1 : (t.typ == 1) = false := by simpa using h1
            have Hcv := run_string_own (P := Try.prog) wr 51 9 Try.underlying51 Try.underlying5 Try.underlying9 _ _ _ Hoa.out
            have hpl := packed_len t.typ t.data
            have htl : t.data.length = q := Hl2.out
            have hfl1 : (dimFds t.dims ++ [Fd.mk 2 0 (IntKind.u64.wrap t.typ) ⟨#[]⟩]).length ≤ 16777215 := by simp [dimFds, Hl1.out]; omega
            by_cases h7 : t.typ = 7
            · have e7 : (t.typ == 7) = true := by simpa using h7
              have HX := Lib.hid (mtext HMm.out (by omega) 7 (strOfNums (packed t.typ t.data)))
              have Hfin := Lib.hid (show tenFds name t = (dimFds t.dims ++ [Fd.mk 2 0 (IntKind.u64.wrap t.typ) ⟨#[]⟩]) ++ [Fd.mk 7 2 0 (strOfNums (packed t.typ t.data))] ++ [⟨8, 2, 0, name⟩] by unfold tenFds atOf; simp [h7])
              have hfl2 : ((dimFds t.dims ++ [Fd.mk 2 0 (IntKind.u64.wrap t.typ) ⟨#[]⟩]) ++ [Fd.mk 7 2 0 (strOfNums (packed t.typ t.data))]).length ≤ 16777216 := by rw [List.length_append]; exact Nat.succ_le_succ hfl1
              clear hfl1 htl hpl h1 h7
              go_wp2_with fail
              refine HX.out.mono ?_
              rintro e w5 ⟨rfl, hm5⟩
              have HY := Lib.hid (mtext hm5 hfl2 8 name)
              clear hm5 hfl2
              go_wp2_with fail
              refine HY.out.mono ?_
              rintro e w6 ⟨rfl, hm6⟩
              have HZ := Lib.hid (wrote (Hfin.out ▸ hm6) (ten_ok hn (by rw [Hl2.out]; omega)) (Nat.le_trans (ten_bulk hn (by rw [Hl2.out]; omega) (by rw [Hl1.out]; omega)) (by omega)))
              have Hb6 := Lib.hid (hm6.belowOf HB0.out (by omega) (by omega))
              clear hm6
              go_wp2_with fail
              refine HZ.out.mono ?_
              rintro e w7 ⟨hb7, ⟨b, hb, rfl⟩ | ⟨err, hb, rfl⟩⟩
              · have Hb := Lib.hid hb
                have Hb7 := Lib.hid (Hb6.out.trans (hb7.mono Hb6.out.size))
                clear hb hb7
                go_wp2
                go_ret
                exact wrote_yes Hb7.out Hb.out
              · exact ⟨rfl, wrote_no (Hb6.out.trans (hb7.mono Hb6.out.size)) hb⟩
            · have e7 : (t.typ == 7) = false := by simpa using h7
              have HX := Lib.hid (mtext HMm.out (by omega) 5 (strOfNums (packed t.typ t.data)))
              have Hfin := Lib.hid (show tenFds name t = (dimFds t.dims ++ [Fd.mk 2 0 (IntKind.u64.wrap t.typ) ⟨#[]⟩]) ++ [Fd.mk 5 2 0 (strOfNums (packed t.typ t.data))] ++ [⟨8, 2, 0, name⟩] by unfold tenFds atOf; simp [h1, h7])
              have hfl2 : ((dimFds t.dims ++ [Fd.mk 2 0 (IntKind.u64.wrap t.typ) ⟨#[]⟩]) ++ [Fd.mk 5 2 0 (strOfNums (packed t.typ t.data))]).length ≤ 16777216 := by rw [List.length_append]; exact Nat.succ_le_succ hfl1
              clear hfl1 htl hpl h1 h7
              go_wp2_with fail
              refine HX.out.mono ?_
              rintro e w5 ⟨rfl, hm5⟩
              have HY := Lib.hid (mtext hm5 hfl2 8 name)
              clear hm5 hfl2
              go_wp2_with fail
              refine HY.out.mono ?_
              rintro e w6 ⟨rfl, hm6⟩
              have HZ := Lib.hid (wrote (Hfin.out ▸ hm6) (ten_ok hn (by rw [Hl2.out]; omega)) (Nat.le_trans (ten_bulk hn (by rw [Hl2.out]; omega) (by rw [Hl1.out]; omega)) (by omega)))
              have Hb6 := Lib.hid (hm6.belowOf HB0.out (by omega) (by omega))
              clear hm6
              go_wp2_with fail
              refine HZ.out.mono ?_
              rintro e w7 ⟨hb7, ⟨b, hb, rfl⟩ | ⟨err, hb, rfl⟩⟩
              · have Hb := Lib.hid hb
                have Hb7 := Lib.hid (Hb6.out.trans (hb7.mono Hb6.out.size))
                clear hb hb7
                go_wp2
                go_ret
                exact wrote_yes Hb7.out Hb.out
              · exact ⟨rfl, wrote_no (Hb6.out.trans (hb7.mono Hb6.out.size)) hb⟩
end Go.Proofs.Ytkcnpnnflbibiaa
