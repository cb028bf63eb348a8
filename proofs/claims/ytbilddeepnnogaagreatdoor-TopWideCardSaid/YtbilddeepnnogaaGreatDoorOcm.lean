import Derived.Test.YtbilddeepnnogaaGreatDoorOam
import Derived.Lib.AppendStr
import Derived.BigRegion
import Derived.Deep.Cut
import Derived.Deep.CutBlock
set_option linter.unusedVariables false
set_option linter.unusedSimpArgs false
/- Layer 4, the wire: what is written. -/
section
set_option linter.unusedVariables false
set_option maxRecDepth 100000
namespace Go.Proofs.YtbilddeepnnogaaGreatDoor
open Go.RowKit

def bytsP (s : ByteArray) : List Int := s.data.toList.map fun b => (b.toNat : Int)
theorem bytesOf_len (s : ByteArray) : (bytsP s).length = s.size := by rw [bytsP, List.length_map, Array.length_toList]; rfl
theorem bytesOf_app (s t : ByteArray) : bytsP (s ++ t) = bytsP s ++ bytsP t := by simp [bytsP]
theorem str_bytes (s : ByteArray) : strOfNums (bytsP s) = s := by
  apply ByteArray.ext
  apply Array.toList_inj.1
  rw [strOfNums_data, bytsP, List.map_map]
  conv => rhs; rw [← List.map_id s.data.toList]
  apply List.map_congr_left
  intro b _
  simp
/-- The call's own bytes, as a text. -/
def OwnS (w : World) (B : Nat) (v : Value) (s : ByteArray) : Prop := OwnB w B v (bytsP s)
theorem ownS_nil (w : World) (B : Nat) : OwnS w B (.slice none 0 0) ⟨#[]⟩ := ownB_nil w B
theorem OwnS.form {w : World} {B : Nat} {v : Value} {s : ByteArray} (h : OwnS w B v s) : ∃ A c, v = .slice A s.size c := by
  obtain ⟨A, c, e⟩ := ownB_form h
  rw [bytesOf_len] at e
  exact ⟨A, c, e⟩
theorem OwnB.below {w w' : World} {B : Nat} {v : Value} {l : List Int} (h : OwnB w B v l) (hb : Below w.heap.size w w') : OwnB w' B v l := by
  refine ⟨⟨h.1.1, ?_⟩, h.2⟩
  rcases h.1.2 with h1 | ⟨g, cap, cur, e, hB, hg, r⟩
  · exact .inl h1
  · exact .inr ⟨g, cap, cur, e, hB, (hb.block g (Array.getElem?_eq_some_iff.1 hg).1).trans hg, r⟩
theorem OwnS.below {w w' : World} {B : Nat} {v : Value} {s : ByteArray} (h : OwnS w B v s) (hb : Below w.heap.size w w') : OwnS w' B v s := OwnB.below h hb
theorem OwnS.grown {a w w' : World} {B : Nat} {v : Value} {s : ByteArray} (h : OwnS w B v s) (hb : Below B a w) (hg : w.grownBy w' v.ownBlock) (hB : B ≤ w.heap.size) : Below B a w' :=
  hb.grown hg hB fun k hk => (h.1.lt k hk).1
theorem run_text {P : Program} (w : World) (src dst : TypeId) (hs : P.underlying src = some (.slice 5)) (he : P.underlying 5 = some (.int .u8)) (hd : P.underlying dst = some .string)
    (B : Nat) (v : Value) (s : ByteArray) (h : OwnS w B v s) : (convert src dst v).run P w = .ok (.string s) w := by
  have := run_string_own w src dst hs he hd B v (bytsP s) h
  rwa [str_bytes] at this
/-- A text more. -/
theorem wpList_append_s {P : Program} (w : World) {ops : Array Oper} {rest : List Oper} {o : Oper} {a : Act} {Q : Exit → Act → World → Prop} (hgd : o.guard = none) (sl x : Operand) (t u : TypeId)
    (ho : o.op = .call { callee := .builtin .append, args := #[sl, x], argTypes := #[t, u] })
    (i : TypeInfo) (ht : P.underlying t = some (.slice 5)) (hu : P.underlying u = some .string) (hi : P.info? 5 = some i) (hz : i.zero = some (.int .u8 0)) (hsize : i.size = 1) (hby : i.bytes = 1)
    (B : Nat) (v : Value) (s : ByteArray) (hs : a.eval sl = v) (hown : OwnS w B v s) (y : ByteArray) (hx : a.eval x = .string y)
    (hlen : s.size + y.size ≤ 140737488355328) (hbase : B ≤ w.heap.size)
    (h : ∀ v' w', OwnS w' B v' (s ++ y) → w.grownBy w' v.ownBlock → wpList P ops Q rest (a.put o.dst v') w') : wpList P ops Q (o :: rest) a w := by
  have hl := bytesOf_len s
  refine Lib.wpList_append_own_string w hgd sl x t u ho B 5 i ht hu hi hz hsize hby v (bytsP s).length ((bytsP s).map (Value.int .u8)) hs hown.1 y hx (by unfold maxLen; omega) (by omega) hbase ?_
  intro v' w' h2 h3 _
  refine h v' w' ⟨?_, by rw [bytesOf_len, ByteArray.size_append]; unfold maxLen; omega⟩ h3
  rw [bytesOf_app, List.length_append, bytesOf_len y, List.map_append]
  have e : (bytsP y).map (Value.int .u8) = Lib.strCells y := by simp [bytsP, Lib.strCells, List.map_map]
  rw [e]
  exact h2

/-- The bytes of a number, the lowest first. -/
def byt (u : Int) (i : Nat) : Int := u / 256 ^ i % 256
def leS (n : Nat) (u : Int) : List Int := (List.range n).map (byt u)
def lst (n k : Nat) (u : Int) : List Int := (List.range n).map fun i => if i < k then byt u i else 0
theorem lst_len (n k : Nat) (u : Int) : (lst n k u).length = n := by simp [lst]
theorem lst_zero (n : Nat) (u : Int) : lst n 0 u = List.replicate n 0 := by
  apply List.ext_getElem
  · simp [lst]
  · intro i h1 h2; simp [lst]
theorem lst_full (n : Nat) (u : Int) : lst n n u = leS n u := by
  apply List.ext_getElem
  · simp [lst, leS]
  · intro i h1 h2
    simp [lst] at h1
    simp [lst, leS, h1]
theorem lst_set (n k : Nat) (u : Int) : (lst n k u).set k (byt u k) = lst n (k + 1) u := by
  apply List.ext_getElem
  · simp [lst]
  · intro i h1 h2
    rw [List.getElem_set]
    simp only [lst, List.getElem_map, List.getElem_range]
    by_cases hik : k = i
    · subst hik; simp
    · rw [if_neg hik]
      by_cases h : i < k
      · rw [if_pos h, if_pos (by omega)]
      · rw [if_neg h, if_neg (by omega)]
theorem ownB_set {w : World} {B g n c : Nat} {l : List Int} (h : OwnB w B (.slice (some ⟨g, 0, none⟩) n c) l) (hn : l.length = n) (j : Nat) (x : Int) :
    OwnB (w.setCell ⟨g, j, none⟩ (.int .u8 x)) B (.slice (some ⟨g, 0, none⟩) n c) (l.set j x) := by
  subst hn
  have h1 := (h.1.stored j (.int .u8 x)).1
  rw [← List.map_set] at h1
  exact ⟨by rw [List.length_set]; exact h1, by rw [List.length_set]; exact h.2⟩
def zbytes (n : Nat) : Array Value := madeCells (Value.int .u8 0).cells (n * 1)
theorem run_make_bytes (n : Nat) (hn : n ≤ 140737488355328) (w : World) : (Instr.makeSlice 114 (.int .i64 (n : Int)) (.int .i64 (n : Int))).run Tryz.prog w = .ok (.slice (some ⟨w.heap.size, 0, none⟩) n n) (w.alloc (.cells (zbytes n) 5)) := by
  obtain ⟨i0, hi, hz0, hz1, hz2⟩ := info_parts Tryz.info5
  have h := run_make (P := Tryz.prog) w 114 5 i0 (.int .u8 0) Tryz.underlying114 hi hz0 .i64 .i64 n n (by omega) (by omega) (by rw [hz2]; omega) (by omega)
  rw [h, hz1]
  rfl
theorem ownB_made (w : World) (B n : Nat) (hB : B ≤ w.heap.size) (hn : n ≤ maxLen) : OwnB (w.alloc (.cells (zbytes n) 5)) B (.slice (some ⟨w.heap.size, 0, none⟩) n n) (List.replicate n 0) := by
  have h := World.ownsRow_lit (base := B) (e := 5) (size := 1) w (madeCells (Value.int .u8 0).cells (n * 1)) n hB hn (by rw [size_madeCells])
  have e : (madeCells (Value.int .u8 0).cells (n * 1)).toList = (List.replicate n (0 : Int)).map (Value.int .u8) := by
    show (madeCells #[Value.int .u8 0] (n * 1)).toList = _
    rw [toList_madeCells_one]; simp
  rw [e] at h
  exact ⟨by rw [List.length_replicate]; exact h, by rw [List.length_replicate]; exact hn⟩

set_option maxRecDepth 100000 in
set_option maxHeartbeats 800000 in
theorem fixed_w (u : Int) (n : Nat) (hn : n ≤ 8) (w : World) (h0 : 0 ≤ u) (h1 : u < B64) :
    Calls Tryz.prog 161 #[.int .u64 u, .int .i64 n] w fun e w' => e = .returned (.string (strOfNums (leS n u))) ∧ Below w.heap.size w w' := by
  have H1 := Lib.hid h1
  have Hcv := Lib.hid (fun wx v l B (h : OwnB wx B v l) => run_string_own (P := Tryz.prog) wx 114 9 Tryz.underlying114 Tryz.underlying5 Tryz.underlying9 B v l h)
  have hmk := run_make_bytes n (by omega)
  clear h1
  go_enter Tryz.func161, Tryz.ntmps161
  go_wp2_with fail
  go_loopw [6, 11] (fun _ i wr => ∃ k : Nat, k ≤ n ∧ i = .int .i64 k ∧ OwnB wr w.heap.size (.slice (some ⟨w.heap.size, 0, none⟩) n n) (lst n k u) ∧ Below w.heap.size w wr) (fun _ i _ => n - (intOf i).toNat)
  case atStart => exact ⟨0, by omega, rfl, by rw [lst_zero]; exact ownB_made w _ n (Nat.le_refl _) (by unfold maxLen; omega), (Below.refl _ _).alloc (Nat.le_refl _) _⟩
  case round =>
    obtain ⟨k, hk, rfl, ho, hb⟩ := hrel
    by_cases hlt : k < n
    · have hon := ho.1
      rw [lst_len] at hon
      have f0 := hon.frozenAt k
      have c0 := hon.cellAt k (by omega)
      obtain ⟨x, hx⟩ : ∃ x, ((lst n k u).map (Value.int .u8))[k]? = some x := ⟨_, List.getElem?_eq_getElem (by rw [List.length_map, lst_len]; exact hlt)⟩
      rw [hx] at c0
      have Ho := Lib.hid ho
      clear ho hx hon
      go_wp2
      go_roundw
      case rel =>
        refine ⟨k + 1, by omega, by go_num, ?_, hb.setCell (Nat.le_refl _) _⟩
        have h := ownB_set Ho.out (lst_len n k u) k (byt u k)
        rw [lst_set] at h
        have e : u / 2 ^ (8 * k) % 256 = byt u k := by unfold byt; rw [show (2 : Int) ^ (8 * k) = 256 ^ k by rw [Int.pow_mul]; rfl]
        rw [e]
        exact h
      case measure => simp [intOf]; omega
    · obtain rfl : k = n := by omega
      have hc := Hcv.out _ _ _ _ ho
      rw [lst_full] at hc
      have Hb := Lib.hid hb
      clear ho hb
      go_wp2
      go_ret
      exact ⟨rfl, Hb.out⟩
/-- A field that has a form. -/
def GoodF (f : Fd) : Prop := 1 ≤ f.num ∧ f.num ≤ 536870911 ∧ ((f.kind = 0 ∧ f.b = ⟨#[]⟩) ∨ (f.kind = 1 ∧ f.b = ⟨#[]⟩) ∨ (f.kind = 5 ∧ f.b = ⟨#[]⟩ ∧ f.u ≤ 4294967295) ∨ (f.kind = 2 ∧ f.u = 0))
def headB (f : Fd) : ByteArray := strOfNums (venc (f.num * 8 + f.kind))
def contB (f : Fd) : ByteArray := if f.kind = 0 then strOfNums (venc f.u) else if f.kind = 1 then strOfNums (leS 8 f.u) else if f.kind = 5 then strOfNums (leS 4 f.u) else strOfNums (venc f.b.size) ++ f.b
def formB (f : Fd) : ByteArray := headB f ++ contB f
/-- A field that Go's values can hold. -/
structure FdOk (f : Fd) : Prop where
  n0 : -9223372036854775808 ≤ f.num
  n1 : f.num ≤ 9223372036854775807
  k0 : -9223372036854775808 ≤ f.kind
  k1 : f.kind ≤ 9223372036854775807
  u0 : 0 ≤ f.u
  u1 : f.u < B64
  b : f.b.size ≤ 140737488351232
/-- What content leaves. -/
def ContIs (f : Fd) (w : World) (e : Ending) (w' : World) : Prop := ∃ c ok, e = .returned (.tuple #[.string c, .bool ok]) ∧ (ok = true → GoodF f ∧ c = contB f) ∧ (ok = false → ¬ GoodF f) ∧ Below w.heap.size w w'
theorem cont_ret {f : Fd} {w w' : World} {c : ByteArray} {ok : Bool} (hb : Below w.heap.size w w') (h : ok = true → GoodF f ∧ c = contB f) (g : ok = false → ¬ GoodF f) : ContIs f w (.returned (.tuple #[.string c, .bool ok])) w' :=
  ⟨c, ok, rfl, h, g, hb⟩
theorem empty_ne {b : ByteArray} (h : b ≠ ⟨#[]⟩) : b.toList.isEmpty = false := by
  rw [ByteArray.toList_eq]
  cases hl : b.data.toList with
  | nil =>
    refine absurd ?_ h
    apply ByteArray.ext
    apply Array.toList_inj.1
    rw [hl]
  | cons _ _ => rfl
theorem num_cases (num : Int) (b : ByteArray) : num < 1 ∨ 536870911 < num ∨ (1 ≤ num ∧ num ≤ 536870911 ∧ b ≠ ⟨#[]⟩) ∨ (1 ≤ num ∧ num ≤ 536870911 ∧ b = ⟨#[]⟩) := by
  by_cases h1 : num < 1
  · exact .inl h1
  · by_cases h2 : 536870911 < num
    · exact .inr (.inl h2)
    · by_cases h3 : b = ⟨#[]⟩
      · exact .inr (.inr (.inr ⟨by omega, by omega, h3⟩))
      · exact .inr (.inr (.inl ⟨by omega, by omega, h3⟩))

set_option maxRecDepth 100000 in
set_option maxHeartbeats 1600000 in
theorem content_0 (num u : Int) (b : ByteArray) (w : World) (h : FdOk ⟨num, 0, u, b⟩) : Calls Tryz.prog 92 #[(Fd.mk num 0 u b).val] w (ContIs ⟨num, 0, u, b⟩ w) := by
  have h0 := h.u0
  have H1 := Lib.hid h.u1
  dsimp only at h0
  clear h
  unfold Fd.val
  rcases num_cases num b with hn | hn | ⟨hn1, hn2, hb⟩ | ⟨hn1, hn2, rfl⟩
  · go_enter Tryz.func92, Tryz.ntmps92
    go_wp2_with fail
    refine (varint_w _ _ h0 H1.out).mono ?_
    rintro e w1 ⟨rfl, hb1⟩
    go_wp2
    go_ret2
    exact cont_ret (((Below.refl _ _).alloc (Nat.le_refl _) _).trans (hb1.mono (by simp))) (fun h => by cases h) (fun _ h => by have := h.1; dsimp only at this; omega)
  · go_enter Tryz.func92, Tryz.ntmps92
    go_wp2_with fail
    refine (varint_w _ _ h0 H1.out).mono ?_
    rintro e w1 ⟨rfl, hb1⟩
    go_wp2
    go_ret2
    exact cont_ret (((Below.refl _ _).alloc (Nat.le_refl _) _).trans (hb1.mono (by simp))) (fun h => by cases h) (fun _ h => by have := h.2.1; dsimp only at this; omega)
  · have he := empty_ne hb
    have Hb := Lib.hid hb
    clear hb
    go_enter Tryz.func92, Tryz.ntmps92
    go_wp2_with fail
    refine (varint_w _ _ h0 H1.out).mono ?_
    rintro e w1 ⟨rfl, hb1⟩
    go_wp2
    go_ret2
    exact cont_ret (((Below.refl _ _).alloc (Nat.le_refl _) _).trans (hb1.mono (by simp))) (fun h => by cases h) (fun _ h => by rcases h.2.2 with ⟨h, h2⟩ | ⟨h, h2⟩ | ⟨h, h2, _⟩ | ⟨h, _⟩ <;> first | exact Hb.out h2 | (dsimp only at h; omega))
  · go_enter Tryz.func92, Tryz.ntmps92
    go_wp2_with fail
    refine (varint_w _ _ h0 H1.out).mono ?_
    rintro e w1 ⟨rfl, hb1⟩
    go_wp2
    go_ret2
    exact cont_ret (((Below.refl _ _).alloc (Nat.le_refl _) _).trans (hb1.mono (by simp))) (fun _ => ⟨⟨hn1, hn2, .inl ⟨rfl, rfl⟩⟩, rfl⟩) (fun h => by cases h)
set_option maxRecDepth 100000 in
set_option maxHeartbeats 1600000 in
theorem content_1 (num u : Int) (b : ByteArray) (w : World) (h : FdOk ⟨num, 1, u, b⟩) : Calls Tryz.prog 92 #[(Fd.mk num 1 u b).val] w (ContIs ⟨num, 1, u, b⟩ w) := by
  have h0 := h.u0
  have H1 := Lib.hid h.u1
  dsimp only at h0
  clear h
  unfold Fd.val
  have T : ∀ w, Calls Tryz.prog 161 #[.int .u64 u, .int .i64 8] w fun e w' => e = .returned (.string (strOfNums (leS 8 u))) ∧ Below w.heap.size w w' := fun w => fixed_w u 8 (by omega) w h0 H1.out
  rcases num_cases num b with hn | hn | ⟨hn1, hn2, hb⟩ | ⟨hn1, hn2, rfl⟩
  · go_enter Tryz.func92, Tryz.ntmps92
    go_wp2_with fail
    refine (T _).mono ?_
    rintro e w1 ⟨rfl, hb1⟩
    go_wp2
    go_ret2
    exact cont_ret (((Below.refl _ _).alloc (Nat.le_refl _) _).trans (hb1.mono (by simp))) (fun h => by cases h) (fun _ h => by have := h.1; dsimp only at this; omega)
  · go_enter Tryz.func92, Tryz.ntmps92
    go_wp2_with fail
    refine (T _).mono ?_
    rintro e w1 ⟨rfl, hb1⟩
    go_wp2
    go_ret2
    exact cont_ret (((Below.refl _ _).alloc (Nat.le_refl _) _).trans (hb1.mono (by simp))) (fun h => by cases h) (fun _ h => by have := h.2.1; dsimp only at this; omega)
  · have he := empty_ne hb
    have Hb := Lib.hid hb
    clear hb
    go_enter Tryz.func92, Tryz.ntmps92
    go_wp2_with fail
    refine (T _).mono ?_
    rintro e w1 ⟨rfl, hb1⟩
    go_wp2
    go_ret2
    exact cont_ret (((Below.refl _ _).alloc (Nat.le_refl _) _).trans (hb1.mono (by simp))) (fun h => by cases h) (fun _ h => by rcases h.2.2 with ⟨h, h2⟩ | ⟨h, h2⟩ | ⟨h, h2, _⟩ | ⟨h, _⟩ <;> first | exact Hb.out h2 | (dsimp only at h; omega))
  · go_enter Tryz.func92, Tryz.ntmps92
    go_wp2_with fail
    refine (T _).mono ?_
    rintro e w1 ⟨rfl, hb1⟩
    go_wp2
    go_ret2
    exact cont_ret (((Below.refl _ _).alloc (Nat.le_refl _) _).trans (hb1.mono (by simp))) (fun _ => ⟨⟨hn1, hn2, .inr (.inl ⟨rfl, rfl⟩)⟩, rfl⟩) (fun h => by cases h)
set_option maxRecDepth 100000 in
set_option maxHeartbeats 1600000 in
theorem content_5 (num u : Int) (b : ByteArray) (w : World) (h : FdOk ⟨num, 5, u, b⟩) : Calls Tryz.prog 92 #[(Fd.mk num 5 u b).val] w (ContIs ⟨num, 5, u, b⟩ w) := by
  have h0 := h.u0
  have H1 := Lib.hid h.u1
  dsimp only at h0
  clear h
  unfold Fd.val
  have T : ∀ w, Calls Tryz.prog 161 #[.int .u64 u, .int .i64 4] w fun e w' => e = .returned (.string (strOfNums (leS 4 u))) ∧ Below w.heap.size w w' := fun w => fixed_w u 4 (by omega) w h0 H1.out
  have HT := Lib.hid T
  clear T
  rcases num_cases num b with hn | hn | ⟨hn1, hn2, hb⟩ | ⟨hn1, hn2, rfl⟩
  · go_enter Tryz.func92, Tryz.ntmps92
    go_wp2_with fail
    have k0 : (w.alloc (.cells #[.int .i64 num, .int .i64 5, .int .u64 u, .string b] 112)).cell? ⟨w.heap.size, 2, none⟩ = some (.int .u64 u) := cell_of_row _ _ 2 _ 112 (0, 0) (heap_alloc_new w _)
    have k1 : Below w.heap.size w (w.alloc (.cells #[.int .i64 num, .int .i64 5, .int .u64 u, .string b] 112)) := (Below.refl _ _).alloc (Nat.le_refl _) _
    have k2 : w.heap.size < (w.alloc (.cells #[.int .i64 num, .int .i64 5, .int .u64 u, .string b] 112)).heap.size := by simp
    generalize w.alloc (.cells #[.int .i64 num, .int .i64 5, .int .u64 u, .string b] 112) = W0 at k0 k1 k2 ⊢
    first | (go_region_law (first
      | (go_simp; go_at_call 161; refine (HT.out _).mono ?_; rintro e w1 ⟨rfl, hb1⟩; have j0 : w1.cell? ⟨w.heap.size, 2, none⟩ = some (.int .u64 u) := (hb1.cell k2).trans k0; have J1 := Lib.hid (Below.trans (below_drewN k1 1) (hb1.mono (Nat.le_of_lt k2))); clear hb1; dsimp only))) | fail
    all_goals
      go_wp2
      go_ret2
      exact cont_ret J1.out (fun h => by cases h) (fun _ h => by have := h.1; dsimp only at this; omega)

  · go_enter Tryz.func92, Tryz.ntmps92
    go_wp2_with fail
    have k0 : (w.alloc (.cells #[.int .i64 num, .int .i64 5, .int .u64 u, .string b] 112)).cell? ⟨w.heap.size, 2, none⟩ = some (.int .u64 u) := cell_of_row _ _ 2 _ 112 (0, 0) (heap_alloc_new w _)
    have k1 : Below w.heap.size w (w.alloc (.cells #[.int .i64 num, .int .i64 5, .int .u64 u, .string b] 112)) := (Below.refl _ _).alloc (Nat.le_refl _) _
    have k2 : w.heap.size < (w.alloc (.cells #[.int .i64 num, .int .i64 5, .int .u64 u, .string b] 112)).heap.size := by simp
    generalize w.alloc (.cells #[.int .i64 num, .int .i64 5, .int .u64 u, .string b] 112) = W0 at k0 k1 k2 ⊢
    first | (go_region_law (first
      | (go_simp; go_at_call 161; refine (HT.out _).mono ?_; rintro e w1 ⟨rfl, hb1⟩; have j0 : w1.cell? ⟨w.heap.size, 2, none⟩ = some (.int .u64 u) := (hb1.cell k2).trans k0; have J1 := Lib.hid (Below.trans (below_drewN k1 1) (hb1.mono (Nat.le_of_lt k2))); clear hb1; dsimp only))) | fail
    all_goals
      go_wp2
      go_ret2
      exact cont_ret J1.out (fun h => by cases h) (fun _ h => by have := h.2.1; dsimp only at this; omega)

  · have he := empty_ne hb
    have Hb := Lib.hid hb
    clear hb
    go_enter Tryz.func92, Tryz.ntmps92
    go_wp2_with fail
    have k0 : (w.alloc (.cells #[.int .i64 num, .int .i64 5, .int .u64 u, .string b] 112)).cell? ⟨w.heap.size, 2, none⟩ = some (.int .u64 u) := cell_of_row _ _ 2 _ 112 (0, 0) (heap_alloc_new w _)
    have k1 : Below w.heap.size w (w.alloc (.cells #[.int .i64 num, .int .i64 5, .int .u64 u, .string b] 112)) := (Below.refl _ _).alloc (Nat.le_refl _) _
    have k2 : w.heap.size < (w.alloc (.cells #[.int .i64 num, .int .i64 5, .int .u64 u, .string b] 112)).heap.size := by simp
    generalize w.alloc (.cells #[.int .i64 num, .int .i64 5, .int .u64 u, .string b] 112) = W0 at k0 k1 k2 ⊢
    first | (go_region_law (first
      | (go_simp; go_at_call 161; refine (HT.out _).mono ?_; rintro e w1 ⟨rfl, hb1⟩; have j0 : w1.cell? ⟨w.heap.size, 2, none⟩ = some (.int .u64 u) := (hb1.cell k2).trans k0; have J1 := Lib.hid (Below.trans (below_drewN k1 1) (hb1.mono (Nat.le_of_lt k2))); clear hb1; dsimp only))) | fail
    all_goals
      go_wp2
      go_ret2
      exact cont_ret J1.out (fun h => by cases h) (fun _ h => by rcases h.2.2 with ⟨h, h2⟩ | ⟨h, h2⟩ | ⟨h, h2, _⟩ | ⟨h, _⟩ <;> first | exact Hb.out h2 | (dsimp only at h; omega))

  · go_enter Tryz.func92, Tryz.ntmps92
    go_wp2_with fail
    have k0 : (w.alloc (.cells #[.int .i64 num, .int .i64 5, .int .u64 u, .string ⟨#[]⟩] 112)).cell? ⟨w.heap.size, 2, none⟩ = some (.int .u64 u) := cell_of_row _ _ 2 _ 112 (0, 0) (heap_alloc_new w _)
    have k1 : Below w.heap.size w (w.alloc (.cells #[.int .i64 num, .int .i64 5, .int .u64 u, .string ⟨#[]⟩] 112)) := (Below.refl _ _).alloc (Nat.le_refl _) _
    have k2 : w.heap.size < (w.alloc (.cells #[.int .i64 num, .int .i64 5, .int .u64 u, .string ⟨#[]⟩] 112)).heap.size := by simp
    generalize w.alloc (.cells #[.int .i64 num, .int .i64 5, .int .u64 u, .string ⟨#[]⟩] 112) = W0 at k0 k1 k2 ⊢
    first | (go_region_law (first
      | (go_simp; go_at_call 161; refine (HT.out _).mono ?_; rintro e w1 ⟨rfl, hb1⟩; have j0 : w1.cell? ⟨w.heap.size, 2, none⟩ = some (.int .u64 u) := (hb1.cell k2).trans k0; have J1 := Lib.hid (Below.trans (below_drewN k1 1) (hb1.mono (Nat.le_of_lt k2))); clear hb1; dsimp only))) | fail
    all_goals
      go_wp2
      go_ret2
      refine cont_ret J1.out (fun h => ?_) (fun h => ?_)
      · have h2 : u / 4294967296 = 0 := by simpa using h
        exact ⟨⟨hn1, hn2, .inr (.inr (.inl ⟨rfl, rfl, by dsimp only; omega⟩))⟩, rfl⟩
      · intro hg
        have h2 : ¬ u / 4294967296 = 0 := by simpa using h
        rcases hg.2.2 with ⟨h1, _⟩ | ⟨h1, _⟩ | ⟨_, _, h1⟩ | ⟨h1, _⟩ <;> (dsimp only at h1; omega)

set_option maxRecDepth 100000 in
set_option maxHeartbeats 1600000 in
theorem content_2 (num u : Int) (b : ByteArray) (w : World) (h : FdOk ⟨num, 2, u, b⟩) : Calls Tryz.prog 92 #[(Fd.mk num 2 u b).val] w (ContIs ⟨num, 2, u, b⟩ w) := by
  have h0 := h.u0
  have H1 := Lib.hid h.u1
  have hz : b.size ≤ 140737488351232 := h.b
  dsimp only at h0
  clear h
  unfold Fd.val
  have T : ∀ w, Calls Tryz.prog 46 #[.int .u64 (IntKind.u64.wrap (b.size : Int))] w fun e w' => e = .returned (.string (strOfNums (venc b.size))) ∧ Below w.heap.size w w' := fun w => by
    rw [IntWalk.u64_in _ ⟨by omega, by omega⟩]
    exact varint_w (b.size : Int) w (by omega) (by unfold B64; omega)
  have hq : ¬ 9223372036854775807 < (strOfNums (venc (b.size : Int))).size + b.size := by
    rw [strOfNums_size]
    have := (vencF_len 9 (b.size : Int)).2
    unfold venc; omega
  have HT := Lib.hid T
  clear T
  by_cases hn : num < 1
  · go_enter Tryz.func92, Tryz.ntmps92
    go_wp2_with fail
    have d1 : decide (1 ≤ num) = false := by simp; omega
    have q1 : ¬ 1 ≤ num := by omega
    have k0 : (w.alloc (.cells #[.int .i64 num, .int .i64 2, .int .u64 u, .string b] 112)).cell? ⟨w.heap.size, 0, none⟩ = some (.int .i64 num) := cell_of_row _ _ 0 _ 112 (0, 0) (heap_alloc_new w _)
    have k2 : (w.alloc (.cells #[.int .i64 num, .int .i64 2, .int .u64 u, .string b] 112)).cell? ⟨w.heap.size, 2, none⟩ = some (.int .u64 u) := cell_of_row _ _ 2 _ 112 (0, 0) (heap_alloc_new w _)
    have k3 : (w.alloc (.cells #[.int .i64 num, .int .i64 2, .int .u64 u, .string b] 112)).cell? ⟨w.heap.size, 3, none⟩ = some (.string b) := cell_of_row _ _ 3 _ 112 (0, 0) (heap_alloc_new w _)
    have kb : Below w.heap.size w (w.alloc (.cells #[.int .i64 num, .int .i64 2, .int .u64 u, .string b] 112)) := (Below.refl _ _).alloc (Nat.le_refl _) _
    have kz : w.heap.size < (w.alloc (.cells #[.int .i64 num, .int .i64 2, .int .u64 u, .string b] 112)).heap.size := by simp
    generalize w.alloc (.cells #[.int .i64 num, .int .i64 2, .int .u64 u, .string b] 112) = W0 at k0 k2 k3 kb kz ⊢
    refine wp_region_held_drew (S := fun W => W.cell? ⟨w.heap.size, 0, none⟩ = some (.int .i64 num) ∧ W.cell? ⟨w.heap.size, 2, none⟩ = some (.int .u64 u) ∧ W.cell? ⟨w.heap.size, 3, none⟩ = some (.string b)) (by kernel_rfl) ⟨k0, k2, k3⟩ (fun hHeld => ?_)
    refine wpAnyH_take (i := 0) (v := ?_) rfl (by kernel_rfl) (by kernel_rfl) (by kernel_rfl) (fun _ _ _ h => h) (Or.inl ⟨by rfl, ?_⟩) (by assumption) ?_
    rotate_left
    · first | (intro w hSw; (try dsimp only at hSw); go_simp; done) | (intro w hSw; (try dsimp only at hSw); go_simp; with_reducible rfl)
    try simp only [Act.put, List.getElem_toArray, List.getElem_cons_zero, List.setIfInBounds_toArray, List.set_cons_zero, List.set_cons_succ]
    refine wpAnyH_take (i := 1) (v := ?_) rfl (by kernel_rfl) (by kernel_rfl) (by kernel_rfl) (fun _ _ _ h => h) (Or.inl ⟨by rfl, ?_⟩) (by assumption) ?_
    rotate_left
    · first | (intro w hSw; (try dsimp only at hSw); go_simp; done) | (intro w hSw; (try dsimp only at hSw); go_simp; with_reducible rfl)
    try simp only [Act.put, List.getElem_toArray, List.getElem_cons_zero, List.getElem_cons_succ, List.setIfInBounds_toArray, List.set_cons_zero, List.set_cons_succ]
    refine wpAnyH_take (i := 2) (v := ?_) rfl (by kernel_rfl) (by kernel_rfl) (by kernel_rfl) (fun _ _ _ h => h) (Or.inl ⟨by rfl, ?_⟩) (by assumption) ?_
    rotate_left
    · first | (intro w hSw; (try dsimp only at hSw); go_simp; done) | (intro w hSw; (try dsimp only at hSw); go_simp; with_reducible rfl)
    try simp only [Act.put, List.getElem_toArray, List.getElem_cons_zero, List.getElem_cons_succ, List.setIfInBounds_toArray, List.set_cons_zero, List.set_cons_succ]
    refine wpAnyH_take (i := 3) (v := ?_) rfl (by kernel_rfl) (by kernel_rfl) (by kernel_rfl) (fun _ _ _ h => h) (Or.inl ⟨by rfl, ?_⟩) (by assumption) ?_
    rotate_left
    · first | (intro w hSw; (try dsimp only at hSw); go_simp; done) | (intro w hSw; (try dsimp only at hSw); go_simp; with_reducible rfl)
    try simp only [Act.put, List.getElem_toArray, List.getElem_cons_zero, List.getElem_cons_succ, List.setIfInBounds_toArray, List.set_cons_zero, List.set_cons_succ]
    refine wpAnyH_take (i := 5) (v := ?_) rfl (by kernel_rfl) (by kernel_rfl) (by kernel_rfl) (fun _ _ _ h => h) (Or.inl ⟨by rfl, ?_⟩) (by assumption) ?_
    rotate_left
    · first | (intro w hSw; (try dsimp only at hSw); go_simp; done) | (intro w hSw; (try dsimp only at hSw); go_simp; with_reducible rfl)
    try simp only [Act.put, List.getElem_toArray, List.getElem_cons_zero, List.getElem_cons_succ, List.setIfInBounds_toArray, List.set_cons_zero, List.set_cons_succ]
    refine wpAnyH_take (i := 6) (v := ?_) rfl (by kernel_rfl) (by kernel_rfl) (by kernel_rfl) (fun _ _ _ h => h) (Or.inl ⟨by rfl, ?_⟩) (by assumption) ?_
    rotate_left
    · first | (intro w hSw; (try dsimp only at hSw); go_simp; done) | (intro w hSw; (try dsimp only at hSw); go_simp; with_reducible rfl)
    try simp only [Act.put, List.getElem_toArray, List.getElem_cons_zero, List.getElem_cons_succ, List.setIfInBounds_toArray, List.set_cons_zero, List.set_cons_succ]
    refine wpAnyH_take (i := 8) (v := ?_) rfl (by kernel_rfl) (by kernel_rfl) (by kernel_rfl) (fun _ _ _ h => h) (Or.inl ⟨by rfl, ?_⟩) (by assumption) ?_
    rotate_left
    · first | (intro w hSw; (try dsimp only at hSw); go_simp; done) | (intro w hSw; (try dsimp only at hSw); go_simp; with_reducible rfl)
    try simp only [Act.put, List.getElem_toArray, List.getElem_cons_zero, List.getElem_cons_succ, List.setIfInBounds_toArray, List.set_cons_zero, List.set_cons_succ]
    refine wpAnyH_take (i := 9) (v := ?_) rfl (by kernel_rfl) (by kernel_rfl) (by kernel_rfl) (fun _ _ _ h => h) (Or.inl ⟨by rfl, ?_⟩) (by assumption) ?_
    rotate_left
    · first | (intro w hSw; (try dsimp only at hSw); go_simp; done) | (intro w hSw; (try dsimp only at hSw); go_simp; with_reducible rfl)
    try simp only [Act.put, List.getElem_toArray, List.getElem_cons_zero, List.getElem_cons_succ, List.setIfInBounds_toArray, List.set_cons_zero, List.set_cons_succ]
    refine wpAnyH_take (i := 10) (v := ?_) rfl (by kernel_rfl) (by kernel_rfl) (by kernel_rfl) (fun _ _ _ h => h) (Or.inl ⟨by rfl, ?_⟩) (by assumption) ?_
    rotate_left
    · first | (intro w hSw; (try dsimp only at hSw); go_simp; done) | (intro w hSw; (try dsimp only at hSw); go_simp; with_reducible rfl)
    try simp only [Act.put, List.getElem_toArray, List.getElem_cons_zero, List.getElem_cons_succ, List.setIfInBounds_toArray, List.set_cons_zero, List.set_cons_succ]
    refine wpAnyH_ready (rs := [4]) (by kernel_rfl) (by simp) ?_
    refine AllReadyH.cons rfl (fun K hK => ?_) AllReadyH.nil
    go_simp
    go_at_call 46; refine (HT.out _).mono ?_; rintro e w1 ⟨rfl, hb1⟩; have j0 : w1.cell? ⟨w.heap.size, 0, none⟩ = some (.int .i64 num) := (hb1.cell kz).trans k0; have j2 : w1.cell? ⟨w.heap.size, 2, none⟩ = some (.int .u64 u) := (hb1.cell kz).trans k2; have j3 : w1.cell? ⟨w.heap.size, 3, none⟩ = some (.string b) := (hb1.cell kz).trans k3; have J1 := Lib.hid (Below.trans (below_drewN kb 1) (hb1.mono (Nat.le_of_lt kz))); clear hb1; dsimp only
    refine hK.out _ _ (⟨j0, j2, j3⟩) (fun hHeld => ?_)
    clear hK K
    try simp only [Act.put, List.getElem_toArray, List.getElem_cons_zero, List.getElem_cons_succ, List.setIfInBounds_toArray, List.set_cons_zero, List.set_cons_succ]
    refine wpAnyH_take (i := 7) (v := ?_) rfl (by kernel_rfl) (by kernel_rfl) (by kernel_rfl) (fun _ _ _ h => h) (Or.inl ⟨by rfl, ?_⟩) (by assumption) ?_
    rotate_left
    · first | (intro w hSw; (try dsimp only at hSw); go_simp; done) | (intro w hSw; (try dsimp only at hSw); go_simp; with_reducible rfl)
    try simp only [Act.put, List.getElem_toArray, List.getElem_cons_zero, List.getElem_cons_succ, List.setIfInBounds_toArray, List.set_cons_zero, List.set_cons_succ]
    refine wpAnyH_take (i := 11) (v := ?_) rfl (by kernel_rfl) (by kernel_rfl) (by kernel_rfl) (fun _ _ _ h => h) (Or.inl ⟨by rfl, ?_⟩) (by assumption) ?_
    rotate_left
    · first | (intro w hSw; (try dsimp only at hSw); go_simp; done) | (intro w hSw; (try dsimp only at hSw); go_simp; with_reducible rfl)
    try simp only [Act.put, List.getElem_toArray, List.getElem_cons_zero, List.getElem_cons_succ, List.setIfInBounds_toArray, List.set_cons_zero, List.set_cons_succ]
    refine wpAnyH_take (i := 12) (v := undef) rfl (by kernel_rfl) (by kernel_rfl) (by kernel_rfl) (fun _ _ _ h => h) (Or.inr ⟨by rfl, rfl⟩) (by assumption) ?_
    try simp only [Act.put, List.getElem_toArray, List.getElem_cons_zero, List.getElem_cons_succ, List.setIfInBounds_toArray, List.set_cons_zero, List.set_cons_succ]
    refine wpAnyH_take (i := 13) (v := undef) rfl (by kernel_rfl) (by kernel_rfl) (by kernel_rfl) (fun _ _ _ h => h) (Or.inr ⟨by rfl, rfl⟩) (by assumption) ?_
    try simp only [Act.put, List.getElem_toArray, List.getElem_cons_zero, List.getElem_cons_succ, List.setIfInBounds_toArray, List.set_cons_zero, List.set_cons_succ]
    refine wpAnyH_take (i := 14) (v := undef) rfl (by kernel_rfl) (by kernel_rfl) (by kernel_rfl) (fun _ _ _ h => h) (Or.inr ⟨by rfl, rfl⟩) (by assumption) ?_
    try simp only [Act.put, List.getElem_toArray, List.getElem_cons_zero, List.getElem_cons_succ, List.setIfInBounds_toArray, List.set_cons_zero, List.set_cons_succ]
    refine wpAnyH_take (i := 15) (v := ?_) rfl (by kernel_rfl) (by kernel_rfl) (by kernel_rfl) (fun _ _ _ h => h) (Or.inl ⟨by rfl, ?_⟩) (by assumption) ?_
    rotate_left
    · first | (intro w hSw; (try dsimp only at hSw); go_simp; done) | (intro w hSw; (try dsimp only at hSw); go_simp; with_reducible rfl)
    try simp only [Act.put, List.getElem_toArray, List.getElem_cons_zero, List.getElem_cons_succ, List.setIfInBounds_toArray, List.set_cons_zero, List.set_cons_succ]
    refine wpAnyH_take (i := 16) (v := ?_) rfl (by kernel_rfl) (by kernel_rfl) (by kernel_rfl) (fun _ _ _ h => h) (Or.inl ⟨by rfl, ?_⟩) (by assumption) ?_
    rotate_left
    · first | (intro w hSw; (try dsimp only at hSw); go_simp; done) | (intro w hSw; (try dsimp only at hSw); go_simp; with_reducible rfl)
    try simp only [Act.put, List.getElem_toArray, List.getElem_cons_zero, List.getElem_cons_succ, List.setIfInBounds_toArray, List.set_cons_zero, List.set_cons_succ]
    refine wpAnyH_take (i := 17) (v := undef) rfl (by kernel_rfl) (by kernel_rfl) (by kernel_rfl) (fun _ _ _ h => h) (Or.inr ⟨by rfl, rfl⟩) (by assumption) ?_
    try simp only [Act.put, List.getElem_toArray, List.getElem_cons_zero, List.getElem_cons_succ, List.setIfInBounds_toArray, List.set_cons_zero, List.set_cons_succ]
    refine wpAnyH_take (i := 18) (v := undef) rfl (by kernel_rfl) (by kernel_rfl) (by kernel_rfl) (fun _ _ _ h => h) (Or.inr ⟨by rfl, rfl⟩) (by assumption) ?_
    try simp only [Act.put, List.getElem_toArray, List.getElem_cons_zero, List.getElem_cons_succ, List.setIfInBounds_toArray, List.set_cons_zero, List.set_cons_succ]
    refine wpAnyH_take (i := 19) (v := undef) rfl (by kernel_rfl) (by kernel_rfl) (by kernel_rfl) (fun _ _ _ h => h) (Or.inr ⟨by rfl, rfl⟩) (by assumption) ?_
    try simp only [Act.put, List.getElem_toArray, List.getElem_cons_zero, List.getElem_cons_succ, List.setIfInBounds_toArray, List.set_cons_zero, List.set_cons_succ]
    refine wpAnyH_take (i := 20) (v := ?_) rfl (by kernel_rfl) (by kernel_rfl) (by kernel_rfl) (fun _ _ _ h => h) (Or.inl ⟨by rfl, ?_⟩) (by assumption) ?_
    rotate_left
    · first | (intro w hSw; (try dsimp only at hSw); go_simp; done) | (intro w hSw; (try dsimp only at hSw); go_simp; with_reducible rfl)
    try simp only [Act.put, List.getElem_toArray, List.getElem_cons_zero, List.getElem_cons_succ, List.setIfInBounds_toArray, List.set_cons_zero, List.set_cons_succ]
    refine wpAnyH_take (i := 21) (v := ?_) rfl (by kernel_rfl) (by kernel_rfl) (by kernel_rfl) (fun _ _ _ h => h) (Or.inl ⟨by rfl, ?_⟩) (by assumption) ?_
    rotate_left
    · first | (intro w hSw; (try dsimp only at hSw); go_simp; done) | (intro w hSw; (try dsimp only at hSw); go_simp; with_reducible rfl)
    try simp only [Act.put, List.getElem_toArray, List.getElem_cons_zero, List.getElem_cons_succ, List.setIfInBounds_toArray, List.set_cons_zero, List.set_cons_succ]
    refine wpAnyH_take (i := 22) (v := ?_) rfl (by kernel_rfl) (by kernel_rfl) (by kernel_rfl) (fun _ _ _ h => h) (Or.inl ⟨by rfl, ?_⟩) (by assumption) ?_
    rotate_left
    · first | (intro w hSw; (try dsimp only at hSw); go_simp; done) | (intro w hSw; (try dsimp only at hSw); go_simp; with_reducible rfl)
    try simp only [Act.put, List.getElem_toArray, List.getElem_cons_zero, List.getElem_cons_succ, List.setIfInBounds_toArray, List.set_cons_zero, List.set_cons_succ]
    refine wpAnyH_done (by kernel_rfl) ?_ _
    all_goals
      go_wp2
      go_ret2
      exact cont_ret J1.out (fun h => by cases h) (fun _ h => by have := h.1; dsimp only at this; omega)
  by_cases hn2 : 536870911 < num
  · go_enter Tryz.func92, Tryz.ntmps92
    go_wp2_with fail
    have d1 : decide (1 ≤ num) = true := by simp; omega
    have q1 : 1 ≤ num := by omega
    have d2 : decide (num ≤ 536870911) = false := by simp; omega
    have q2 : ¬ num ≤ 536870911 := by omega
    have k0 : (w.alloc (.cells #[.int .i64 num, .int .i64 2, .int .u64 u, .string b] 112)).cell? ⟨w.heap.size, 0, none⟩ = some (.int .i64 num) := cell_of_row _ _ 0 _ 112 (0, 0) (heap_alloc_new w _)
    have k2 : (w.alloc (.cells #[.int .i64 num, .int .i64 2, .int .u64 u, .string b] 112)).cell? ⟨w.heap.size, 2, none⟩ = some (.int .u64 u) := cell_of_row _ _ 2 _ 112 (0, 0) (heap_alloc_new w _)
    have k3 : (w.alloc (.cells #[.int .i64 num, .int .i64 2, .int .u64 u, .string b] 112)).cell? ⟨w.heap.size, 3, none⟩ = some (.string b) := cell_of_row _ _ 3 _ 112 (0, 0) (heap_alloc_new w _)
    have kb : Below w.heap.size w (w.alloc (.cells #[.int .i64 num, .int .i64 2, .int .u64 u, .string b] 112)) := (Below.refl _ _).alloc (Nat.le_refl _) _
    have kz : w.heap.size < (w.alloc (.cells #[.int .i64 num, .int .i64 2, .int .u64 u, .string b] 112)).heap.size := by simp
    generalize w.alloc (.cells #[.int .i64 num, .int .i64 2, .int .u64 u, .string b] 112) = W0 at k0 k2 k3 kb kz ⊢
    refine wp_region_held_drew (S := fun W => W.cell? ⟨w.heap.size, 0, none⟩ = some (.int .i64 num) ∧ W.cell? ⟨w.heap.size, 2, none⟩ = some (.int .u64 u) ∧ W.cell? ⟨w.heap.size, 3, none⟩ = some (.string b)) (by kernel_rfl) ⟨k0, k2, k3⟩ (fun hHeld => ?_)
    refine wpAnyH_take (i := 0) (v := ?_) rfl (by kernel_rfl) (by kernel_rfl) (by kernel_rfl) (fun _ _ _ h => h) (Or.inl ⟨by rfl, ?_⟩) (by assumption) ?_
    rotate_left
    · first | (intro w hSw; (try dsimp only at hSw); go_simp; done) | (intro w hSw; (try dsimp only at hSw); go_simp; with_reducible rfl)
    try simp only [Act.put, List.getElem_toArray, List.getElem_cons_zero, List.setIfInBounds_toArray, List.set_cons_zero, List.set_cons_succ]
    refine wpAnyH_take (i := 1) (v := ?_) rfl (by kernel_rfl) (by kernel_rfl) (by kernel_rfl) (fun _ _ _ h => h) (Or.inl ⟨by rfl, ?_⟩) (by assumption) ?_
    rotate_left
    · first | (intro w hSw; (try dsimp only at hSw); go_simp; done) | (intro w hSw; (try dsimp only at hSw); go_simp; with_reducible rfl)
    try simp only [Act.put, List.getElem_toArray, List.getElem_cons_zero, List.getElem_cons_succ, List.setIfInBounds_toArray, List.set_cons_zero, List.set_cons_succ]
    refine wpAnyH_take (i := 2) (v := ?_) rfl (by kernel_rfl) (by kernel_rfl) (by kernel_rfl) (fun _ _ _ h => h) (Or.inl ⟨by rfl, ?_⟩) (by assumption) ?_
    rotate_left
    · first | (intro w hSw; (try dsimp only at hSw); go_simp; done) | (intro w hSw; (try dsimp only at hSw); go_simp; with_reducible rfl)
    try simp only [Act.put, List.getElem_toArray, List.getElem_cons_zero, List.getElem_cons_succ, List.setIfInBounds_toArray, List.set_cons_zero, List.set_cons_succ]
    refine wpAnyH_take (i := 3) (v := ?_) rfl (by kernel_rfl) (by kernel_rfl) (by kernel_rfl) (fun _ _ _ h => h) (Or.inl ⟨by rfl, ?_⟩) (by assumption) ?_
    rotate_left
    · first | (intro w hSw; (try dsimp only at hSw); go_simp; done) | (intro w hSw; (try dsimp only at hSw); go_simp; with_reducible rfl)
    try simp only [Act.put, List.getElem_toArray, List.getElem_cons_zero, List.getElem_cons_succ, List.setIfInBounds_toArray, List.set_cons_zero, List.set_cons_succ]
    refine wpAnyH_take (i := 5) (v := ?_) rfl (by kernel_rfl) (by kernel_rfl) (by kernel_rfl) (fun _ _ _ h => h) (Or.inl ⟨by rfl, ?_⟩) (by assumption) ?_
    rotate_left
    · first | (intro w hSw; (try dsimp only at hSw); go_simp; done) | (intro w hSw; (try dsimp only at hSw); go_simp; with_reducible rfl)
    try simp only [Act.put, List.getElem_toArray, List.getElem_cons_zero, List.getElem_cons_succ, List.setIfInBounds_toArray, List.set_cons_zero, List.set_cons_succ]
    refine wpAnyH_take (i := 6) (v := ?_) rfl (by kernel_rfl) (by kernel_rfl) (by kernel_rfl) (fun _ _ _ h => h) (Or.inl ⟨by rfl, ?_⟩) (by assumption) ?_
    rotate_left
    · first | (intro w hSw; (try dsimp only at hSw); go_simp; done) | (intro w hSw; (try dsimp only at hSw); go_simp; with_reducible rfl)
    try simp only [Act.put, List.getElem_toArray, List.getElem_cons_zero, List.getElem_cons_succ, List.setIfInBounds_toArray, List.set_cons_zero, List.set_cons_succ]
    refine wpAnyH_take (i := 8) (v := ?_) rfl (by kernel_rfl) (by kernel_rfl) (by kernel_rfl) (fun _ _ _ h => h) (Or.inl ⟨by rfl, ?_⟩) (by assumption) ?_
    rotate_left
    · first | (intro w hSw; (try dsimp only at hSw); go_simp; done) | (intro w hSw; (try dsimp only at hSw); go_simp; with_reducible rfl)
    try simp only [Act.put, List.getElem_toArray, List.getElem_cons_zero, List.getElem_cons_succ, List.setIfInBounds_toArray, List.set_cons_zero, List.set_cons_succ]
    refine wpAnyH_take (i := 9) (v := ?_) rfl (by kernel_rfl) (by kernel_rfl) (by kernel_rfl) (fun _ _ _ h => h) (Or.inl ⟨by rfl, ?_⟩) (by assumption) ?_
    rotate_left
    · first | (intro w hSw; (try dsimp only at hSw); go_simp; done) | (intro w hSw; (try dsimp only at hSw); go_simp; with_reducible rfl)
    try simp only [Act.put, List.getElem_toArray, List.getElem_cons_zero, List.getElem_cons_succ, List.setIfInBounds_toArray, List.set_cons_zero, List.set_cons_succ]
    refine wpAnyH_take (i := 10) (v := ?_) rfl (by kernel_rfl) (by kernel_rfl) (by kernel_rfl) (fun _ _ _ h => h) (Or.inl ⟨by rfl, ?_⟩) (by assumption) ?_
    rotate_left
    · first | (intro w hSw; (try dsimp only at hSw); go_simp; done) | (intro w hSw; (try dsimp only at hSw); go_simp; with_reducible rfl)
    try simp only [Act.put, List.getElem_toArray, List.getElem_cons_zero, List.getElem_cons_succ, List.setIfInBounds_toArray, List.set_cons_zero, List.set_cons_succ]
    refine wpAnyH_ready (rs := [4]) (by kernel_rfl) (by simp) ?_
    refine AllReadyH.cons rfl (fun K hK => ?_) AllReadyH.nil
    go_simp
    go_at_call 46; refine (HT.out _).mono ?_; rintro e w1 ⟨rfl, hb1⟩; have j0 : w1.cell? ⟨w.heap.size, 0, none⟩ = some (.int .i64 num) := (hb1.cell kz).trans k0; have j2 : w1.cell? ⟨w.heap.size, 2, none⟩ = some (.int .u64 u) := (hb1.cell kz).trans k2; have j3 : w1.cell? ⟨w.heap.size, 3, none⟩ = some (.string b) := (hb1.cell kz).trans k3; have J1 := Lib.hid (Below.trans (below_drewN kb 1) (hb1.mono (Nat.le_of_lt kz))); clear hb1; dsimp only
    refine hK.out _ _ (⟨j0, j2, j3⟩) (fun hHeld => ?_)
    clear hK K
    try simp only [Act.put, List.getElem_toArray, List.getElem_cons_zero, List.getElem_cons_succ, List.setIfInBounds_toArray, List.set_cons_zero, List.set_cons_succ]
    refine wpAnyH_take (i := 7) (v := ?_) rfl (by kernel_rfl) (by kernel_rfl) (by kernel_rfl) (fun _ _ _ h => h) (Or.inl ⟨by rfl, ?_⟩) (by assumption) ?_
    rotate_left
    · first | (intro w hSw; (try dsimp only at hSw); go_simp; done) | (intro w hSw; (try dsimp only at hSw); go_simp; with_reducible rfl)
    try simp only [Act.put, List.getElem_toArray, List.getElem_cons_zero, List.getElem_cons_succ, List.setIfInBounds_toArray, List.set_cons_zero, List.set_cons_succ]
    refine wpAnyH_take (i := 11) (v := ?_) rfl (by kernel_rfl) (by kernel_rfl) (by kernel_rfl) (fun _ _ _ h => h) (Or.inl ⟨by rfl, ?_⟩) (by assumption) ?_
    rotate_left
    · first | (intro w hSw; (try dsimp only at hSw); go_simp; done) | (intro w hSw; (try dsimp only at hSw); go_simp; with_reducible rfl)
    try simp only [Act.put, List.getElem_toArray, List.getElem_cons_zero, List.getElem_cons_succ, List.setIfInBounds_toArray, List.set_cons_zero, List.set_cons_succ]
    refine wpAnyH_take (i := 12) (v := ?_) rfl (by kernel_rfl) (by kernel_rfl) (by kernel_rfl) (fun _ _ _ h => h) (Or.inl ⟨by rfl, ?_⟩) (by assumption) ?_
    rotate_left
    · first | (intro w hSw; (try dsimp only at hSw); go_simp; done) | (intro w hSw; (try dsimp only at hSw); go_simp; with_reducible rfl)
    try simp only [Act.put, List.getElem_toArray, List.getElem_cons_zero, List.getElem_cons_succ, List.setIfInBounds_toArray, List.set_cons_zero, List.set_cons_succ]
    refine wpAnyH_take (i := 13) (v := ?_) rfl (by kernel_rfl) (by kernel_rfl) (by kernel_rfl) (fun _ _ _ h => h) (Or.inl ⟨by rfl, ?_⟩) (by assumption) ?_
    rotate_left
    · first | (intro w hSw; (try dsimp only at hSw); go_simp; done) | (intro w hSw; (try dsimp only at hSw); go_simp; with_reducible rfl)
    try simp only [Act.put, List.getElem_toArray, List.getElem_cons_zero, List.getElem_cons_succ, List.setIfInBounds_toArray, List.set_cons_zero, List.set_cons_succ]
    refine wpAnyH_take (i := 14) (v := ?_) rfl (by kernel_rfl) (by kernel_rfl) (by kernel_rfl) (fun _ _ _ h => h) (Or.inl ⟨by rfl, ?_⟩) (by assumption) ?_
    rotate_left
    · first | (intro w hSw; (try dsimp only at hSw); go_simp; done) | (intro w hSw; (try dsimp only at hSw); go_simp; with_reducible rfl)
    try simp only [Act.put, List.getElem_toArray, List.getElem_cons_zero, List.getElem_cons_succ, List.setIfInBounds_toArray, List.set_cons_zero, List.set_cons_succ]
    refine wpAnyH_take (i := 15) (v := ?_) rfl (by kernel_rfl) (by kernel_rfl) (by kernel_rfl) (fun _ _ _ h => h) (Or.inl ⟨by rfl, ?_⟩) (by assumption) ?_
    rotate_left
    · first | (intro w hSw; (try dsimp only at hSw); go_simp; done) | (intro w hSw; (try dsimp only at hSw); go_simp; with_reducible rfl)
    try simp only [Act.put, List.getElem_toArray, List.getElem_cons_zero, List.getElem_cons_succ, List.setIfInBounds_toArray, List.set_cons_zero, List.set_cons_succ]
    refine wpAnyH_take (i := 16) (v := ?_) rfl (by kernel_rfl) (by kernel_rfl) (by kernel_rfl) (fun _ _ _ h => h) (Or.inl ⟨by rfl, ?_⟩) (by assumption) ?_
    rotate_left
    · first | (intro w hSw; (try dsimp only at hSw); go_simp; done) | (intro w hSw; (try dsimp only at hSw); go_simp; with_reducible rfl)
    try simp only [Act.put, List.getElem_toArray, List.getElem_cons_zero, List.getElem_cons_succ, List.setIfInBounds_toArray, List.set_cons_zero, List.set_cons_succ]
    refine wpAnyH_take (i := 17) (v := undef) rfl (by kernel_rfl) (by kernel_rfl) (by kernel_rfl) (fun _ _ _ h => h) (Or.inr ⟨by rfl, rfl⟩) (by assumption) ?_
    try simp only [Act.put, List.getElem_toArray, List.getElem_cons_zero, List.getElem_cons_succ, List.setIfInBounds_toArray, List.set_cons_zero, List.set_cons_succ]
    refine wpAnyH_take (i := 18) (v := undef) rfl (by kernel_rfl) (by kernel_rfl) (by kernel_rfl) (fun _ _ _ h => h) (Or.inr ⟨by rfl, rfl⟩) (by assumption) ?_
    try simp only [Act.put, List.getElem_toArray, List.getElem_cons_zero, List.getElem_cons_succ, List.setIfInBounds_toArray, List.set_cons_zero, List.set_cons_succ]
    refine wpAnyH_take (i := 19) (v := undef) rfl (by kernel_rfl) (by kernel_rfl) (by kernel_rfl) (fun _ _ _ h => h) (Or.inr ⟨by rfl, rfl⟩) (by assumption) ?_
    try simp only [Act.put, List.getElem_toArray, List.getElem_cons_zero, List.getElem_cons_succ, List.setIfInBounds_toArray, List.set_cons_zero, List.set_cons_succ]
    refine wpAnyH_take (i := 20) (v := ?_) rfl (by kernel_rfl) (by kernel_rfl) (by kernel_rfl) (fun _ _ _ h => h) (Or.inl ⟨by rfl, ?_⟩) (by assumption) ?_
    rotate_left
    · first | (intro w hSw; (try dsimp only at hSw); go_simp; done) | (intro w hSw; (try dsimp only at hSw); go_simp; with_reducible rfl)
    try simp only [Act.put, List.getElem_toArray, List.getElem_cons_zero, List.getElem_cons_succ, List.setIfInBounds_toArray, List.set_cons_zero, List.set_cons_succ]
    refine wpAnyH_take (i := 21) (v := ?_) rfl (by kernel_rfl) (by kernel_rfl) (by kernel_rfl) (fun _ _ _ h => h) (Or.inl ⟨by rfl, ?_⟩) (by assumption) ?_
    rotate_left
    · first | (intro w hSw; (try dsimp only at hSw); go_simp; done) | (intro w hSw; (try dsimp only at hSw); go_simp; with_reducible rfl)
    try simp only [Act.put, List.getElem_toArray, List.getElem_cons_zero, List.getElem_cons_succ, List.setIfInBounds_toArray, List.set_cons_zero, List.set_cons_succ]
    refine wpAnyH_take (i := 22) (v := ?_) rfl (by kernel_rfl) (by kernel_rfl) (by kernel_rfl) (fun _ _ _ h => h) (Or.inl ⟨by rfl, ?_⟩) (by assumption) ?_
    rotate_left
    · first | (intro w hSw; (try dsimp only at hSw); go_simp; done) | (intro w hSw; (try dsimp only at hSw); go_simp; with_reducible rfl)
    try simp only [Act.put, List.getElem_toArray, List.getElem_cons_zero, List.getElem_cons_succ, List.setIfInBounds_toArray, List.set_cons_zero, List.set_cons_succ]
    refine wpAnyH_done (by kernel_rfl) ?_ _
    all_goals
      go_wp2
      go_ret2
      exact cont_ret J1.out (fun h => by cases h) (fun _ h => by have := h.2.1; dsimp only at this; omega)
  by_cases hu : u = 0
  · subst hu
    go_enter Tryz.func92, Tryz.ntmps92
    go_wp2_with fail
    have d1 : decide (1 ≤ num) = true := by simp; omega
    have q1 : 1 ≤ num := by omega
    have d2 : decide (num ≤ 536870911) = true := by simp; omega
    have q2 : num ≤ 536870911 := by omega
    have k0 : (w.alloc (.cells #[.int .i64 num, .int .i64 2, .int .u64 0, .string b] 112)).cell? ⟨w.heap.size, 0, none⟩ = some (.int .i64 num) := cell_of_row _ _ 0 _ 112 (0, 0) (heap_alloc_new w _)
    have k2 : (w.alloc (.cells #[.int .i64 num, .int .i64 2, .int .u64 0, .string b] 112)).cell? ⟨w.heap.size, 2, none⟩ = some (.int .u64 0) := cell_of_row _ _ 2 _ 112 (0, 0) (heap_alloc_new w _)
    have k3 : (w.alloc (.cells #[.int .i64 num, .int .i64 2, .int .u64 0, .string b] 112)).cell? ⟨w.heap.size, 3, none⟩ = some (.string b) := cell_of_row _ _ 3 _ 112 (0, 0) (heap_alloc_new w _)
    have kb : Below w.heap.size w (w.alloc (.cells #[.int .i64 num, .int .i64 2, .int .u64 0, .string b] 112)) := (Below.refl _ _).alloc (Nat.le_refl _) _
    have kz : w.heap.size < (w.alloc (.cells #[.int .i64 num, .int .i64 2, .int .u64 0, .string b] 112)).heap.size := by simp
    generalize w.alloc (.cells #[.int .i64 num, .int .i64 2, .int .u64 0, .string b] 112) = W0 at k0 k2 k3 kb kz ⊢
    go_region_held3 (fun W => W.cell? ⟨w.heap.size, 0, none⟩ = some (.int .i64 num) ∧ W.cell? ⟨w.heap.size, 2, none⟩ = some (.int .u64 0) ∧ W.cell? ⟨w.heap.size, 3, none⟩ = some (.string b)) (first | exact ⟨k0, k2, k3⟩ | exact ⟨j0, j2, j3⟩ | exact ⟨by assumption, by assumption, by assumption⟩ | go_keep)
      (first | (go_at_call 46; refine (HT.out _).mono ?_; rintro e w1 ⟨rfl, hb1⟩; have j0 : w1.cell? ⟨w.heap.size, 0, none⟩ = some (.int .i64 num) := (hb1.cell kz).trans k0; have j2 : w1.cell? ⟨w.heap.size, 2, none⟩ = some (.int .u64 0) := (hb1.cell kz).trans k2; have j3 : w1.cell? ⟨w.heap.size, 3, none⟩ = some (.string b) := (hb1.cell kz).trans k3; have J1 := Lib.hid (Below.trans (below_drewN kb 1) (hb1.mono (Nat.le_of_lt kz))); clear hb1))
    all_goals
      go_wp2
      go_ret2
      exact cont_ret J1.out (fun _ => ⟨⟨by dsimp only; omega, by dsimp only; omega, .inr (.inr (.inr ⟨rfl, rfl⟩))⟩, rfl⟩) (fun h => by cases h)
  · have du : (u == 0) = false := by simpa using hu
    have Hu := Lib.hid hu
    clear hu
    go_enter Tryz.func92, Tryz.ntmps92
    go_wp2_with fail
    have d1 : decide (1 ≤ num) = true := by simp; omega
    have q1 : 1 ≤ num := by omega
    have d2 : decide (num ≤ 536870911) = true := by simp; omega
    have q2 : num ≤ 536870911 := by omega
    have k0 : (w.alloc (.cells #[.int .i64 num, .int .i64 2, .int .u64 u, .string b] 112)).cell? ⟨w.heap.size, 0, none⟩ = some (.int .i64 num) := cell_of_row _ _ 0 _ 112 (0, 0) (heap_alloc_new w _)
    have k2 : (w.alloc (.cells #[.int .i64 num, .int .i64 2, .int .u64 u, .string b] 112)).cell? ⟨w.heap.size, 2, none⟩ = some (.int .u64 u) := cell_of_row _ _ 2 _ 112 (0, 0) (heap_alloc_new w _)
    have k3 : (w.alloc (.cells #[.int .i64 num, .int .i64 2, .int .u64 u, .string b] 112)).cell? ⟨w.heap.size, 3, none⟩ = some (.string b) := cell_of_row _ _ 3 _ 112 (0, 0) (heap_alloc_new w _)
    have kb : Below w.heap.size w (w.alloc (.cells #[.int .i64 num, .int .i64 2, .int .u64 u, .string b] 112)) := (Below.refl _ _).alloc (Nat.le_refl _) _
    have kz : w.heap.size < (w.alloc (.cells #[.int .i64 num, .int .i64 2, .int .u64 u, .string b] 112)).heap.size := by simp
    generalize w.alloc (.cells #[.int .i64 num, .int .i64 2, .int .u64 u, .string b] 112) = W0 at k0 k2 k3 kb kz ⊢
    go_region_held3 (fun W => W.cell? ⟨w.heap.size, 0, none⟩ = some (.int .i64 num) ∧ W.cell? ⟨w.heap.size, 2, none⟩ = some (.int .u64 u) ∧ W.cell? ⟨w.heap.size, 3, none⟩ = some (.string b)) (first | exact ⟨k0, k2, k3⟩ | exact ⟨j0, j2, j3⟩ | exact ⟨by assumption, by assumption, by assumption⟩ | go_keep)
      (first | (go_at_call 46; refine (HT.out _).mono ?_; rintro e w1 ⟨rfl, hb1⟩; have j0 : w1.cell? ⟨w.heap.size, 0, none⟩ = some (.int .i64 num) := (hb1.cell kz).trans k0; have j2 : w1.cell? ⟨w.heap.size, 2, none⟩ = some (.int .u64 u) := (hb1.cell kz).trans k2; have j3 : w1.cell? ⟨w.heap.size, 3, none⟩ = some (.string b) := (hb1.cell kz).trans k3; have J1 := Lib.hid (Below.trans (below_drewN kb 1) (hb1.mono (Nat.le_of_lt kz))); clear hb1))
    all_goals
      go_wp2
      go_ret2
      exact cont_ret J1.out (fun h => by cases h) (fun _ h => by rcases h.2.2 with ⟨h, h2⟩ | ⟨h, h2⟩ | ⟨h, h2, _⟩ | ⟨_, h⟩ <;> first | exact Hu.out h | (dsimp only at h; omega))
set_option maxRecDepth 100000 in
set_option maxHeartbeats 1600000 in
theorem content_o (num kind u : Int) (b : ByteArray) (w : World) (k0 : kind ≠ 0) (k1 : kind ≠ 1) (k2 : kind ≠ 2) (k5 : kind ≠ 5) : Calls Tryz.prog 92 #[(Fd.mk num kind u b).val] w (ContIs ⟨num, kind, u, b⟩ w) := by
  have e0 : (kind == 0) = false := by simpa using k0
  have e1 : (kind == 1) = false := by simpa using k1
  have e2 : (kind == 2) = false := by simpa using k2
  have e5 : (kind == 5) = false := by simpa using k5
  have K0 := Lib.hid k0
  have K1 := Lib.hid k1
  have K2 := Lib.hid k2
  have K5 := Lib.hid k5
  clear k0 k1 k2 k5
  unfold Fd.val
  go_enter Tryz.func92, Tryz.ntmps92
  go_wp2
  all_goals
    go_ret2
    exact cont_ret ((Below.refl _ _).alloc (Nat.le_refl _) _) (fun h => by cases h) (fun _ h => by rcases h.2.2 with ⟨h, _⟩ | ⟨h, _⟩ | ⟨h, _⟩ | ⟨h, _⟩ <;> first | exact K0.out h | exact K1.out h | exact K2.out h | exact K5.out h)
theorem content_any (f : Fd) (w : World) (h : FdOk f) : Calls Tryz.prog 92 #[f.val] w (ContIs f w) := by
  obtain ⟨num, kind, u, b⟩ := f
  by_cases k0 : kind = 0
  · subst k0; exact content_0 num u b w h
  by_cases k1 : kind = 1
  · subst k1; exact content_1 num u b w h
  by_cases k2 : kind = 2
  · subst k2; exact content_2 num u b w h
  by_cases k5 : kind = 5
  · subst k5; exact content_5 num u b w h
  exact content_o num kind u b w k0 k1 k2 k5

theorem venc_sz (a : Int) : (strOfNums (venc a)).size ≤ 10 := by rw [strOfNums_size]; exact (vencF_len 9 a).2

theorem u64_bd (x : Int) : 0 ≤ IntKind.u64.wrap x ∧ IntKind.u64.wrap x < B64 := by
  unfold B64
  simp [IntKind.wrap, IntKind.signed, IntKind.bits]
  omega

/-- The bytes of a number one by one. -/
theorem byt_step (u : Int) (k : Nat) : u / 256 ^ k / 256 = u / 256 ^ (k + 1) := by
  rw [Int.pow_succ, Int.ediv_ediv_of_nonneg (Int.pow_nonneg (by omega))]
/-- The bytes of fields. -/
def textB : List Fd → ByteArray
  | [] => ⟨#[]⟩
  | f :: l => formB f ++ textB l
theorem app_nil (s : ByteArray) : s ++ ⟨#[]⟩ = s := by
  apply ByteArray.ext; apply Array.toList_inj.1
  rw [ByteArray.toList_data_append]; simp
theorem nil_app (s : ByteArray) : (⟨#[]⟩ : ByteArray) ++ s = s := by
  apply ByteArray.ext; apply Array.toList_inj.1
  rw [ByteArray.toList_data_append]; simp
theorem textB_snoc (l : List Fd) (f : Fd) : textB (l ++ [f]) = textB l ++ formB f := by
  induction l with
  | nil => simp [textB, app_nil, nil_app]
  | cons g l ih => simp [textB, ih, ByteArray.append_assoc]
def AllGood (l : List Fd) : Prop := ∀ f ∈ l, GoodF f
/-- What any fields are written as: three ways. -/
def WrIs (l : List Fd) (r : ByteArray) (err : Int) : Prop :=
  (¬ AllGood l ∧ r = ⟨#[]⟩ ∧ err = 1) ∨ (AllGood l ∧ 16777216 < (textB l).size ∧ r = ⟨#[]⟩ ∧ err = 6) ∨ (AllGood l ∧ (textB l).size ≤ 16777216 ∧ r = textB l ∧ err = 0)
theorem wrIs_any (l : List Fd) : ∃ r err, WrIs l r err := by
  by_cases h : AllGood l
  · by_cases hs : 16777216 < (textB l).size
    · exact ⟨_, _, .inr (.inl ⟨h, hs, rfl, rfl⟩)⟩
    · exact ⟨_, _, .inr (.inr ⟨h, by omega, rfl, rfl⟩)⟩
  · exact ⟨_, _, .inl ⟨h, rfl, rfl⟩⟩
theorem textB_take (l : List Fd) (k : Nat) (f : Fd) (h : l[k]? = some f) : textB (l.take (k + 1)) = textB (l.take k) ++ formB f := by
  rw [List.take_add_one, h, ← textB_snoc]; rfl
theorem textB_mono (l : List Fd) (k : Nat) : (textB (l.take k)).size ≤ (textB l).size := by
  induction l generalizing k with
  | nil => simp
  | cons f l ih =>
    cases k with
    | zero => exact Nat.zero_le _
    | succ k =>
      have := ih k
      simp only [List.take_succ_cons, textB, ByteArray.size_append]
      omega
theorem good_take {l : List Fd} {k : Nat} {f : Fd} (h : l[k]? = some f) (hg : AllGood (l.take k)) (hf : GoodF f) : AllGood (l.take (k + 1)) := by
  rw [List.take_add_one, h]
  intro g hm
  rcases List.mem_append.1 hm with hm | hm
  · exact hg g hm
  · simp at hm; subst hm; exact hf
/-- What a call leaves that hands back a text and an error. -/
def Txt (w : World) (r : ByteArray) (err : Int) (e : Ending) (w' : World) : Prop := e = .returned (.tuple #[.string r, .int .i64 err]) ∧ Below w.heap.size w w'
theorem txt_ret {w w' : World} {r c : ByteArray} {err x : Int} (hb : Below w.heap.size w w') (h1 : c = r) (h2 : x = err) : Txt w r err (.returned (.tuple #[.string c, .int .i64 x])) w' := by
  subst h1 h2; exact ⟨rfl, hb⟩
theorem good_kind {f : Fd} (h : GoodF f) : 0 ≤ f.kind ∧ f.kind ≤ 5 := by
  rcases h.2.2 with ⟨h, _⟩ | ⟨h, _⟩ | ⟨h, _⟩ | ⟨h, _⟩ <;> omega

end Go.Proofs.YtbilddeepnnogaaGreatDoor
end
/- Layer 5: a message under way. -/
section
set_option linter.unusedVariables false
set_option maxRecDepth 100000
namespace Go.Proofs.YtbilddeepnnogaaGreatDoor
open Go.RowKit

theorem bt_str (xs : List Int) (hb : ∀ x ∈ xs, 0 ≤ x ∧ x < 256) (k : Nat) (x : Int) (h : xs[k]? = some x) : bt (strOfNums xs) k = x := by
  unfold bt
  rw [strOfNums_data, List.getD_eq_getElem?_getD, List.getElem?_map, h]
  have := hb x (List.mem_of_getElem? h)
  simp only [Option.map_some, Option.getD_some]
  rw [UInt8.toNat_ofNat']
  omega

theorem tkGo_venc (s : ByteArray) (p : Nat) : ∀ g i acc y, i + g = 9 → 0 ≤ y → y < 2 * two g → (∀ j x, (vencF g y)[j]? = some x → bt s (p + i + j) = x) → p + i + (vencF g y).length ≤ s.size →
    tkGo s p (g + 1) i acc = some (acc + y * two i, p + i + (vencF g y).length) := by
  intro g
  induction g with
  | zero =>
    intro i acc y hi h0 h1 hb hl
    rw [show two 0 = 1 from rfl] at h1
    have e : vencF 0 y = [y] := by rw [vencF_stop 0 y (by omega), show y % 256 = y by omega]
    rw [e] at hb hl ⊢
    have h := hb 0 y rfl
    rw [Nat.add_zero] at h
    rw [tkGo, if_neg (by simp at hl; omega), if_neg (by omega), if_pos (by omega)]
    simp only [nx, h, List.length_singleton]
    rw [show y % 128 = y by omega]
  | succ g ih =>
    intro i acc y hi h0 h1 hb hl
    by_cases hy : y < 128
    · have e : vencF (g + 1) y = [y] := by rw [vencF_stop _ y hy, show y % 256 = y by omega]
      rw [e] at hb hl ⊢
      have h := hb 0 y rfl
      rw [Nat.add_zero] at h
      rw [tkGo, if_neg (by simp at hl; omega), if_neg (by omega), if_pos (by omega)]
      simp only [nx, h, List.length_singleton]
      rw [show y % 128 = y by omega]
    · have e := vencF_more g y hy
      rw [e] at hb hl ⊢
      have h := hb 0 _ rfl
      rw [Nat.add_zero] at h
      rw [List.length_cons] at hl
      have ht : two (g + 1) = 128 * two g := two_succ g
      have hk := ih (i + 1) (nx s p i acc) (y / 128) (by omega) (by omega) (by omega) (fun j x hx => by
        have := hb (j + 1) x (by simpa using hx)
        rw [← this]; congr 1; omega) (by omega)
      rw [tkGo, if_neg (by omega), if_neg (by omega), if_neg (by omega), hk]
      have hv : nx s p i acc + y / 128 * two (i + 1) = acc + y * two i := by
        unfold nx
        rw [h, two_succ, show (y % 128 + 128) % 128 = y % 128 by omega]
        have e2 : y = y % 128 + y / 128 * 128 := by omega
        conv => rhs; rw [e2]
        rw [Int.add_mul, Int.mul_assoc, Int.add_assoc]
      rw [hv, List.length_cons]
      congr 2
      omega
theorem tk_venc (u : Int) (h0 : 0 ≤ u) (h1 : u < B64) : tk (strOfNums (venc u)) 0 = some (u, (strOfNums (venc u)).size) := by
  have h := tkGo_venc (strOfNums (venc u)) 0 9 0 0 u (by omega) h0 (by rw [two_9]; unfold B64 at h1; omega) (fun j x hx => by
    rw [Nat.add_zero, Nat.zero_add]
    exact bt_str _ (vencF_byte 9 u h0) j x hx) (by rw [strOfNums_size]; simp [venc])
  unfold tk
  rw [h, strOfNums_size, show two 0 = 1 from rfl]
  simp [venc]

/-- A number read from so many bytes is small. -/
theorem tkGo_min (s : ByteArray) (p : Nat) : ∀ f i acc v n, tkGo s p f i acc = some (v, n) → ∃ y m, 0 ≤ y ∧ v = acc + y * two i ∧ n = p + i + m ∧ 1 ≤ m ∧ y < two m := by
  intro f
  induction f with
  | zero => intro i acc v n h; simp [tkGo] at h
  | succ f ih =>
    intro i acc v n h
    rw [tkGo] at h
    have hb := bt_bd s (p + i)
    split at h
    · cases h
    · split at h
      · cases h
      · split at h
        · rename_i hlt
          simp only [Option.some.injEq, Prod.mk.injEq] at h
          refine ⟨bt s (p + i), 1, hb.1, ?_, by omega, by omega, by rw [two_succ, show two 0 = 1 from rfl]; omega⟩
          rw [← h.1]; unfold nx; rw [show bt s (p + i) % 128 = bt s (p + i) by omega]
        · obtain ⟨y, m, y0, hv, hn, hm, hy⟩ := ih _ _ _ _ h
          refine ⟨bt s (p + i) % 128 + 128 * y, m + 1, by omega, ?_, by omega, by omega, by rw [two_succ]; omega⟩
          rw [hv, two_succ]
          unfold nx
          rw [Int.add_mul, Int.add_assoc, show y * (128 * two i) = 128 * y * two i by rw [← Int.mul_assoc, Int.mul_comm y 128]]
theorem vencF_min : ∀ f y m, 0 ≤ y → 1 ≤ m → y < two m → (vencF f y).length ≤ m := by
  intro f
  induction f with
  | zero => intro y m _ hm _; simp [vencF]; omega
  | succ f ih =>
    intro y m h0 hm hy
    by_cases h : y < 128
    · rw [vencF_stop _ _ h]; simp; omega
    · rw [vencF_more _ _ h]
      obtain ⟨k, rfl⟩ : ∃ k, m = k + 1 := ⟨m - 1, by omega⟩
      have hk : k ≠ 0 := fun e => by subst e; rw [two_succ, show two 0 = 1 from rfl] at hy; omega
      rw [two_succ] at hy
      have := ih (y / 128) k (by omega) (by omega) (by omega)
      simp; omega
theorem tk_min {s : ByteArray} {p : Nat} {u : Int} {n : Nat} (h : tk s p = some (u, n)) : p + (strOfNums (venc u)).size ≤ n := by
  obtain ⟨y, m, y0, hv, hn, hm, hy⟩ := tkGo_min s p 10 0 0 u n h
  rw [show two 0 = 1 from rfl] at hv
  have e : u = y := by omega
  subst e
  have := vencF_min 9 u m y0 hm hy
  rw [strOfNums_size]
  unfold venc
  omega
theorem lowS_byt (s : ByteArray) : ∀ n p u, 0 ≤ u → u < 256 ^ n → (∀ i, i < n → bt s (p + i) = byt u i) → lowS s p n = u := by
  intro n
  induction n with
  | zero => intro p u h0 h1 _; simp at h1; simp [lowS]; omega
  | succ n ih =>
    intro p u h0 h1 hb
    have hq : u / 256 < 256 ^ n := Int.ediv_lt_of_lt_mul (by omega) (by rw [Int.pow_succ] at h1; exact h1)
    have hr := ih (p + 1) (u / 256) (by omega) hq (fun i hi => by
      rw [show p + 1 + i = p + (i + 1) by omega, hb (i + 1) (by omega)]
      unfold byt
      rw [← byt_step, Int.ediv_ediv_of_nonneg (Int.pow_nonneg (by omega)), Int.mul_comm, ← Int.ediv_ediv_of_nonneg (by omega)])
    have h := hb 0 (by omega)
    rw [lowS, hr, ← Nat.add_zero p, h]
    simp [byt]
    omega
theorem leS_byte (n : Nat) (u : Int) : ∀ x ∈ leS n u, 0 ≤ x ∧ x < 256 := by
  intro x hx
  simp only [leS, List.mem_map] at hx
  obtain ⟨i, _, rfl⟩ := hx
  unfold byt; omega
theorem lowS_leS (n : Nat) (u : Int) (h0 : 0 ≤ u) (h1 : u < 256 ^ n) : lowS (strOfNums (leS n u)) 0 n = u :=
  lowS_byt _ n 0 u h0 h1 fun i hi => by
    rw [Nat.zero_add]
    exact bt_str _ (leS_byte n u) i _ (by simp [leS, hi])
theorem leS_size (n : Nat) (u : Int) : (strOfNums (leS n u)).size = n := by rw [strOfNums_size]; simp [leS]
theorem pow8 : (256 : Int) ^ 8 = 18446744073709551616 := by decide
theorem pow4 : (256 : Int) ^ 4 = 4294967296 := by decide
theorem extract_all (t : ByteArray) : t.extract 0 t.size = t := by
  apply list_ext
  simp

theorem body_form (f : Fd) (hg : GoodF f) (ho : FdOk f) : bodyS (contB f) (f.num * 8 + f.kind) 0 = some (f, (contB f).size) := by
  obtain ⟨num, kind, u, b⟩ := f
  have u0 : 0 ≤ u := ho.u0
  have u1 : u < B64 := ho.u1
  have hz : b.size ≤ 140737488351232 := ho.b
  obtain ⟨n1, n2, hk⟩ := hg
  dsimp only at n1 n2 hk ⊢
  rcases hk with ⟨rfl, rfl⟩ | ⟨rfl, rfl⟩ | ⟨rfl, rfl, hu⟩ | ⟨rfl, rfl⟩
  · have e : contB ⟨num, 0, u, ⟨#[]⟩⟩ = strOfNums (venc u) := by simp [contB]
    unfold bodyS
    rw [e, if_pos (by omega), tk_venc u u0 u1]
    simp only [Option.map_some]
    rw [show (num * 8 + 0) / 8 = num by omega]
  · have e : contB ⟨num, 1, u, ⟨#[]⟩⟩ = strOfNums (leS 8 u) := by simp [contB]
    unfold bodyS
    rw [e, if_neg (by omega), if_pos (by omega), leS_size, if_neg (by omega), lowS_leS 8 u u0 (by unfold B64 at u1; have e8 := pow8; omega)]
    rw [show (num * 8 + 1) / 8 = num by omega]
  · have e : contB ⟨num, 5, u, ⟨#[]⟩⟩ = strOfNums (leS 4 u) := by simp [contB]
    unfold bodyS
    rw [e, if_neg (by omega), if_neg (by omega), if_pos (by omega), leS_size, if_neg (by omega), lowS_leS 4 u u0 (by have e4 := pow4; omega)]
    rw [show (num * 8 + 5) / 8 = num by omega]
  · have e : contB ⟨num, 2, 0, b⟩ = strOfNums (venc b.size) ++ b := by simp [contB]
    unfold bodyS
    rw [e, if_neg (by omega), if_neg (by omega), if_neg (by omega), if_pos (by omega), tk_left b (tk_venc b.size (by omega) (by unfold B64; omega))]
    simp only [Option.bind_some]
    rw [if_neg (by rw [size_app]; omega), show (num * 8 + 2) / 8 = num by omega, Int.toNat_natCast]
    have h := extract_right (strOfNums (venc b.size)) b 0 b.size
    rw [Nat.add_zero, extract_all] at h
    rw [h, size_app]
theorem field_form (f : Fd) (hg : GoodF f) (ho : FdOk f) : fieldS (formB f) 0 = some (f, (formB f).size) := by
  have hk := good_kind hg
  have h1 := hg.1
  have h2 := hg.2.1
  have ht := tk_venc (f.num * 8 + f.kind) (by omega) (by unfold B64; omega)
  unfold fieldS formB headB
  rw [tk_left (contB f) ht]
  simp only [Option.bind_some]
  rw [if_neg (by omega)]
  have hb := bodyS_right (strOfNums (venc (f.num * 8 + f.kind))) (contB f) (f.num * 8 + f.kind) 0
  rw [Nat.add_zero] at hb
  rw [hb, body_form f hg ho]
  simp
theorem fields_text (l : List Fd) (hg : AllGood l) (ho : ∀ f ∈ l, FdOk f) : fieldsS (textB l) 0 = some l := by
  induction l with
  | nil => exact fields_end (by simp [textB]; rfl)
  | cons f l ih =>
    have hf := field_form f (hg f (by simp)) (ho f (by simp))
    have hb := fieldS_bd hf
    have hs : (textB (f :: l)).size = (formB f).size + (textB l).size := by simp only [textB, size_app]
    rw [fields_step (by rw [hs]; omega) (show fieldS (textB (f :: l)) 0 = some (f, (formB f).size) from fieldS_left (textB l) hf)]
    have hr := fields_right (formB f) (textB l)
    rw [show textB (f :: l) = formB f ++ textB l from rfl, hr, ih (fun g h => hg g (by simp [h])) (fun g h => ho g (by simp [h]))]
    rfl

theorem body_read {s : ByteArray} {hd : Int} {p : Nat} (h8 : 8 ≤ hd) (h32 : hd ≤ 4294967295) (hz : s.size ≤ 140737488351232) (hp : p ≤ s.size) {f : Fd} {n : Nat} (h : bodyS s hd p = some (f, n)) :
    GoodF f ∧ FdOk f ∧ f.num * 8 + f.kind = hd ∧ p + (contB f).size ≤ n := by
  unfold bodyS at h
  split at h
  · rename_i hk
    cases e : tk s p with
    | none => rw [e] at h; cases h
    | some r =>
      rw [e] at h
      simp only [Option.map_some, Option.some.injEq, Prod.mk.injEq] at h
      obtain ⟨rfl, rfl⟩ := h
      have hb := tk_bd (show tk s p = some (r.1, r.2) by rw [e])
      have hm := tk_min (show tk s p = some (r.1, r.2) by rw [e])
      refine ⟨⟨by dsimp only; omega, by dsimp only; omega, .inl ⟨rfl, rfl⟩⟩, ⟨by dsimp only; omega, by dsimp only; omega, by dsimp only; omega, by dsimp only; omega, hb.1, hb.2.1, by dsimp only; decide⟩, by dsimp only; omega, ?_⟩
      simp only [contB, if_pos]
      omega
  · split at h
    · rename_i hk
      split at h
      · cases h
      · simp only [Option.some.injEq, Prod.mk.injEq] at h
        obtain ⟨rfl, rfl⟩ := h
        have hb := lowS_bd s p 8
        have e8 : (256 : Int) ^ 8 = 18446744073709551616 := by decide
        rw [e8] at hb
        refine ⟨⟨by dsimp only; omega, by dsimp only; omega, .inr (.inl ⟨rfl, rfl⟩)⟩, ⟨by dsimp only; omega, by dsimp only; omega, by dsimp only; omega, by dsimp only; omega, hb.1, hb.2, by dsimp only; decide⟩, by dsimp only; omega, ?_⟩
        have e : contB ⟨hd / 8, 1, lowS s p 8, ⟨#[]⟩⟩ = strOfNums (leS 8 (lowS s p 8)) := by simp [contB]
        rw [e, leS_size]; omega
    · split at h
      · rename_i hk
        split at h
        · cases h
        · simp only [Option.some.injEq, Prod.mk.injEq] at h
          obtain ⟨rfl, rfl⟩ := h
          have hb := lowS_bd s p 4
          have e8 : (256 : Int) ^ 4 = 4294967296 := by decide
          rw [e8] at hb
          refine ⟨⟨by dsimp only; omega, by dsimp only; omega, .inr (.inr (.inl ⟨rfl, rfl, by dsimp only; omega⟩))⟩, ⟨by dsimp only; omega, by dsimp only; omega, by dsimp only; omega, by dsimp only; omega, hb.1, by unfold B64; dsimp only; omega, by dsimp only; decide⟩, by dsimp only; omega, ?_⟩
          have e : contB ⟨hd / 8, 5, lowS s p 4, ⟨#[]⟩⟩ = strOfNums (leS 4 (lowS s p 4)) := by simp [contB]
          rw [e, leS_size]; omega
      · split at h
        · rename_i hk
          cases e : tk s p with
          | none => rw [e] at h; cases h
          | some r =>
            rw [e] at h
            simp only [Option.bind_some] at h
            have hb := tk_bd (show tk s p = some (r.1, r.2) by rw [e])
            have hm := tk_min (show tk s p = some (r.1, r.2) by rw [e])
            split at h
            · cases h
            · simp only [Option.some.injEq, Prod.mk.injEq] at h
              obtain ⟨rfl, rfl⟩ := h
              have hs : (s.extract r.2 (r.2 + r.1.toNat)).size = r.1.toNat := by simp; omega
              refine ⟨⟨by dsimp only; omega, by dsimp only; omega, .inr (.inr (.inr ⟨rfl, rfl⟩))⟩, ⟨by dsimp only; omega, by dsimp only; omega, by dsimp only; omega, by dsimp only; omega, by dsimp only; omega, by dsimp only; decide, by dsimp only; omega⟩, by dsimp only; omega, ?_⟩
              have e : contB ⟨hd / 8, 2, 0, s.extract r.2 (r.2 + r.1.toNat)⟩ = strOfNums (venc r.1.toNat) ++ s.extract r.2 (r.2 + r.1.toNat) := by simp only [contB, hs]; simp
              rw [e, size_app, hs, Int.toNat_of_nonneg hb.1]
              omega
        · cases h
theorem field_read {s : ByteArray} {p : Nat} (hz : s.size ≤ 140737488351232) {f : Fd} {n : Nat} (h : fieldS s p = some (f, n)) : GoodF f ∧ FdOk f ∧ p + (formB f).size ≤ n := by
  unfold fieldS at h
  cases e : tk s p with
  | none => rw [e] at h; cases h
  | some r =>
    rw [e] at h
    simp only [Option.bind_some] at h
    have hb := tk_bd (show tk s p = some (r.1, r.2) by rw [e])
    have hm := tk_min (show tk s p = some (r.1, r.2) by rw [e])
    split at h
    · cases h
    · obtain ⟨h1, h2, h3, h4⟩ := body_read (by omega) (by omega) hz (by omega) h
      refine ⟨h1, h2, ?_⟩
      unfold formB headB
      rw [h3, size_app]
      omega
theorem fields_read (s : ByteArray) (hz : s.size ≤ 140737488351232) : ∀ k p l, s.size - p ≤ k → fieldsS s p = some l → AllGood l ∧ (∀ f ∈ l, FdOk f) ∧ (textB l).size ≤ s.size - p := by
  intro k
  induction k with
  | zero =>
    intro p l hk h
    rw [fields_end (by omega)] at h
    cases h
    exact ⟨fun f h => by simp at h, fun f h => by simp at h, Nat.zero_le _⟩
  | succ k ih =>
    intro p l hk h
    by_cases hlt : p < s.size
    · cases hf : fieldS s p with
      | none => rw [fields_bad hlt hf] at h; cases h
      | some r =>
        obtain ⟨f, n⟩ := r
        have hb := fieldS_bd hf
        obtain ⟨g1, g2, g3⟩ := field_read hz hf
        rw [fields_step hlt hf] at h
        cases hr : fieldsS s n with
        | none => rw [hr] at h; cases h
        | some l' =>
          rw [hr] at h
          cases h
          obtain ⟨i1, i2, i3⟩ := ih n l' (by omega) hr
          refine ⟨fun g hm => ?_, fun g hm => ?_, ?_⟩
          · rcases List.mem_cons.1 hm with rfl | hm
            · exact g1
            · exact i1 g hm
          · rcases List.mem_cons.1 hm with rfl | hm
            · exact g2
            · exact i2 g hm
          · rw [show textB (f :: l') = formB f ++ textB l' from rfl, size_app]; omega
    · rw [fields_end hlt] at h
      cases h
      exact ⟨fun f h => by simp at h, fun f h => by simp at h, Nat.zero_le _⟩
theorem or_head (num kind : Int) (h0 : 0 ≤ kind) (h1 : kind ≤ 5) (n1 : 1 ≤ num) (n2 : num ≤ 536870911) : bits .or .u64 (num * 8) kind = num * 8 + kind := by
  have e := bits_join_low .u64 64 (by decide) wraps_u64 3 kind (num * 8) h0 (by omega) (by omega) (by omega) (by omega) (by omega)
  have c : bits .or .u64 (num * 8) kind = bits .or .u64 kind (num * 8) := by
    unfold bits; simp [Nat.or_comm]
  rw [c, e]; omega

set_option maxRecDepth 100000 in
set_option maxHeartbeats 1600000 in
theorem pwrite_any (l : List Fd) (A : Option Addr) (n c : Nat) (w : World) (B : Nat) (hl : Flds w B A n l) (hB : B ≤ w.heap.size) (hok : ∀ f ∈ l, FdOk f) (hsz : (textB l).size ≤ 4611686018427387904) (r : ByteArray) (err : Int) (h : WrIs l r err) :
    Calls Tryz.prog 47 #[.slice A n c] w (Txt w r err) := by
  obtain ⟨i0, hi, hz0, hz1, hz2⟩ := info_parts Tryz.info5
  have H := Lib.hid h
  have Hl := Lib.hid hl.len
  have hm : n ≤ 9223372036854775807 := hl.small
  have Hcv := Lib.hid (fun wx v s B (h : OwnS wx B v s) => run_text (P := Tryz.prog) wx 114 9 Tryz.underlying114 Tryz.underlying5 Tryz.underlying9 B v s h)
  clear h
  go_enter Tryz.func47, Tryz.ntmps47
  go_wp2_with fail
  go_loopw [4, 5, 12] (fun v z i wr => ∃ k : Nat, k ≤ n ∧ i = .int .i64 k ∧ AllGood (l.take k) ∧ Below w.heap.size w wr ∧ z = .int .i64 ((textB (l.take k)).size : Int) ∧ ∃ s, OwnS wr w.heap.size v s ∧ s.size ≤ 16777216 ∧ ((textB (l.take k)).size ≤ 16777216 → s = textB (l.take k))) (fun _ _ i _ => n - (intOf i).toNat)
  case atStart => exact ⟨0, by omega, rfl, fun f h => by simp at h, Below.refl _ _, rfl, _, ownS_nil _ _, by decide, fun _ => rfl⟩
  case round =>
    obtain ⟨k, hk, rfl, hg, hb, rfl, s, ho, hs, hcase⟩ := hrel
    have z0 := hb.size
    have Hb := Lib.hid hb
    have Hg := Lib.hid hg
    have Ho := Lib.hid ho
    have Hs := Lib.hid hcase
    clear hb hg hcase
    have e0 := textB_mono l k
    by_cases hlt : k < n
    · obtain ⟨b1, o1, rfl, hb1, hc1⟩ := hl.at_ (by omega)
      obtain ⟨f, hf⟩ : ∃ f, l[k]? = some f := ⟨_, List.getElem?_eq_getElem (by rw [Hl.out]; exact hlt)⟩
      obtain ⟨x0, x1, x2, x3⟩ := hc1 k f hf
      rw [Nat.mul_comm 4 k] at x0 x1 x2 x3
      have y0 := (Hb.out.cell (p := ⟨b1, o1 + k * 4, none⟩) (by dsimp only; omega)).trans x0
      have y1 := (Hb.out.cell (p := ⟨b1, o1 + k * 4 + 1, none⟩) (by dsimp only; omega)).trans x1
      have y2 := (Hb.out.cell (p := ⟨b1, o1 + k * 4 + 2, none⟩) (by dsimp only; omega)).trans x2
      have y3 := (Hb.out.cell (p := ⟨b1, o1 + k * 4 + 3, none⟩) (by dsimp only; omega)).trans x3
      have Hf := Lib.hid hf
      have fm : f ∈ l := List.mem_of_getElem? hf
      have Hfm := Lib.hid fm
      have e1 : (textB (l.take (k + 1))).size = (textB (l.take k)).size + (formB f).size := by rw [textB_take l k f Hf.out, ByteArray.size_append]
      have e2 := textB_mono l (k + 1)
      obtain ⟨A4, c4, rfl⟩ := Ho.out.form
      have HT := Lib.hid (fun w => content_any f w (hok f fm))
      clear x0 x1 x2 x3 hf fm hc1
      obtain ⟨num, kind, u, b⟩ := f
      dsimp only at y0 y1 y2 y3
      go_wp2_with fail
      refine (HT.out _).mono ?_
      rintro e w1 ⟨c', ok, rfl, hyes, hno, hb1⟩
      have p0 : w1.cell? ⟨wr.heap.size, 0, none⟩ = some (.int .i64 num) := (hb1.cell (by simp)).trans (cell_of_row _ _ 0 _ 112 (0, 0) (heap_alloc_new wr _))
      have p1 : w1.cell? ⟨wr.heap.size, 1, none⟩ = some (.int .i64 kind) := (hb1.cell (by simp)).trans (cell_of_row _ _ 1 _ 112 (0, 0) (heap_alloc_new wr _))
      have Hb1 := Lib.hid ((Hb.out.alloc z0 (.cells #[.int .i64 num, .int .i64 kind, .int .u64 u, .string b] 112)).trans (hb1.mono (by simp; omega)))
      have Ho1 := Lib.hid ((Ho.out.below ((Below.refl _ _).alloc (Nat.le_refl _) (.cells #[.int .i64 num, .int .i64 kind, .int .u64 u, .string b] 112))).below hb1)
      have z1 := Hb1.out.size
      clear hb1 y0 y1 y2 y3 HT
      cases ok with
      | false =>
        have hgf := hno rfl
        have He : Hid (r = ⟨#[]⟩ ∧ err = 1) := Lib.hid (by
          rcases H.out with ⟨_, h⟩ | ⟨h, _⟩ | ⟨h, _⟩
          · exact h
          · exact absurd (h _ Hfm.out) hgf
          · exact absurd (h _ Hfm.out) hgf)
        clear hgf hno hyes
        go_wp2
        go_ret2
        exact txt_ret Hb1.out He.out.1.symm He.out.2.symm
      | true =>
        obtain ⟨hgf, rfl⟩ := hyes rfl
        have n1 : 1 ≤ num := hgf.1
        have n2 : num ≤ 536870911 := hgf.2.1
        have q1 : 0 ≤ kind := (good_kind hgf).1
        have q2 : kind ≤ 5 := (good_kind hgf).2
        have Hgf := Lib.hid hgf
        have T : ∀ w, Calls Tryz.prog 46 #[.int .u64 (bits .or .u64 (num * 8) kind)] w fun e w' => e = .returned (.string (strOfNums (venc (num * 8 + kind)))) ∧ Below w.heap.size w w' := fun w => by
          rw [or_head num kind q1 q2 n1 n2]
          exact varint_w (num * 8 + kind) w (by omega) (by unfold B64; omega)
        have HV := Lib.hid T
        have hfe : formB ⟨num, kind, u, b⟩ = strOfNums (venc (num * 8 + kind)) ++ contB ⟨num, kind, u, b⟩ := rfl
        have hfs : (formB ⟨num, kind, u, b⟩).size = (strOfNums (venc (num * 8 + kind))).size + (contB ⟨num, kind, u, b⟩).size := by rw [hfe, ByteArray.size_append]
        have hq : ¬ 9223372036854775807 < (strOfNums (venc (num * 8 + kind))).size + (contB ⟨num, kind, u, b⟩).size := by omega
        have Hfe := Lib.hid hfe
        clear hgf hno hyes T hfe
        go_wp2_with fail
        refine (HV.out _).mono ?_
        rintro e w2 ⟨rfl, hb2⟩
        have Hb2 := Lib.hid (Hb1.out.trans (hb2.mono z1))
        have Ho2 := Lib.hid (Ho1.out.below hb2)
        have z2 := Hb2.out.size
        clear hb2 p0 p1
        by_cases hbig : 16777216 < (textB (l.take (k + 1))).size
        · have hbig2 : 16777216 < ((textB (l.take k)).size : Int) + ((strOfNums (venc (num * 8 + kind))).size + (contB ⟨num, kind, u, b⟩).size : Int) := by omega
          go_wp2
          go_roundw
          case rel => exact ⟨k + 1, by omega, by go_num, good_take Hf.out Hg.out Hgf.out, Hb2.out, by simp; omega, _, Ho2.out, hs, fun h => by omega⟩
          case measure => simp [intOf]; omega
        · have hbig2 : ((textB (l.take k)).size : Int) + ((strOfNums (venc (num * 8 + kind))).size + (contB ⟨num, kind, u, b⟩).size : Int) ≤ 16777216 := by omega
          have hse := Lib.hid (Hs.out (by omega))
          go_wp2_with (at_builtin; refine wpList_append_s _ rfl (.tmp 40) (.tmp 41) 114 9 rfl i0 Tryz.underlying114 Tryz.underlying9 hi hz0 hz1 hz2 w.heap.size _ s rfl Ho2.out (strOfNums (venc (num * 8 + kind)) ++ contB ⟨num, kind, u, b⟩) rfl (by rw [ByteArray.size_append]; omega) (by omega) ?_; intro v' w3 ho3 hg3)
          go_roundw
          case rel => exact ⟨k + 1, by omega, by go_num, good_take Hf.out Hg.out Hgf.out, Ho2.out.grown Hb2.out hg3 (by omega), by simp; omega, _, ho3, by rw [hse.out, ← Hfe.out, ← textB_take l k _ Hf.out]; omega, fun _ => by rw [hse.out, ← Hfe.out, ← textB_take l k _ Hf.out]⟩
          case measure => simp [intOf]; omega
    · obtain rfl : k = n := by omega
      have Ht : Hid (l.take k = l) := Lib.hid (by rw [← Hl.out, List.take_length])
      by_cases hbig : 16777216 < (textB (l.take k)).size
      · have He : Hid ((⟨#[]⟩ : ByteArray) = r ∧ 6 = err) := Lib.hid (by
          have hg := Hg.out
          rw [Ht.out] at hbig hg
          rcases H.out with ⟨h, _⟩ | ⟨_, _, h, h'⟩ | ⟨_, h, _⟩
          · exact absurd hg h
          · exact ⟨h.symm, h'.symm⟩
          · omega)
        go_wp2
        go_ret2
        exact txt_ret Hb.out He.out.1 He.out.2
      · have hc := Hcv.out _ _ _ _ Ho.out
        have He : Hid (s = r ∧ 0 = err) := Lib.hid (by
          have hg := Hg.out
          have hs2 := Hs.out (by omega)
          rw [Ht.out] at hbig hg hs2
          rcases H.out with ⟨h, _⟩ | ⟨_, h, _⟩ | ⟨_, _, h, h'⟩
          · exact absurd hg h
          · omega
          · exact ⟨hs2.trans h.symm, h'.symm⟩)
        obtain ⟨A4, c4, rfl⟩ := Ho.out.form
        go_wp2
        go_ret2
        exact txt_ret Hb.out He.out.1 He.out.2
/-- How many bytes fields weigh at least. -/
def wt : List Fd → Nat
  | [] => 0
  | f :: l => f.b.size + 1 + wt l
theorem form_ge {f : Fd} (h : GoodF f) : f.b.size + 1 ≤ (formB f).size := by
  have h1 : 1 ≤ (headB f).size := by
    unfold headB
    rw [strOfNums_size]
    exact (vencF_len 9 _).1
  have h2 : f.b.size ≤ (contB f).size := by
    rcases h.2.2 with ⟨_, e⟩ | ⟨_, e⟩ | ⟨_, e, _⟩ | ⟨e, _⟩
    · rw [e]; exact Nat.zero_le _
    · rw [e]; exact Nat.zero_le _
    · rw [e]; exact Nat.zero_le _
    · have e2 : contB f = strOfNums (venc f.b.size) ++ f.b := by simp [contB, e]
      rw [e2, size_app]; omega
  unfold formB
  rw [size_app]; omega
theorem wt_text (l : List Fd) (h : AllGood l) : wt l ≤ (textB l).size := by
  induction l with
  | nil => exact Nat.zero_le _
  | cons f l ih =>
    have h1 := form_ge (h f (by simp))
    have h2 := ih (fun g hg => h g (by simp [hg]))
    simp only [wt, textB, size_app]; omega
/-- What is known of a message's fields. -/
theorem fldsE_ok {s : ByteArray} {l : List Fd} (h : fldsE s = .ok l) : fieldsS s 0 = some l ∧ s.size ≤ 16777216 ∧ AllGood l ∧ (∀ f ∈ l, FdOk f) ∧ wt l ≤ s.size := by
  unfold fldsE at h
  split at h
  · cases h
  · rename_i hs
    split at h
    · cases h
    · rename_i l' e
      cases h
      obtain ⟨h1, h2, h3⟩ := fields_read s (by omega) _ 0 l (Nat.le_refl _) e
      have := wt_text l h1
      exact ⟨e, by omega, h1, h2, by omega⟩

/-- The growth of an own list touches nothing of old. -/
theorem only_grown {b : Nat} {x y z : World} {r : Option Nat} (h : Only b x y) (hg : y.grownBy z r) (hr : ∀ k, r = some k → x.heap.size ≤ k) : Only b x z :=
  ⟨hg.os.trans h.os, hg.tape.trans h.tape, hg.output.trans h.output, Nat.le_trans h.size hg.size, fun k hk hne =>
    (hg.block k (Nat.lt_of_lt_of_le hk h.size) fun e => by have := hr k e.symm; omega).trans (h.block k hk hne)⟩
theorem only_below {b : Nat} {x y z : World} (h : Only b x y) (hb : Below y.heap.size y z) : Only b x z :=
  ⟨hb.os.trans h.os, hb.tape.trans h.tape, hb.output.trans h.output, Nat.le_trans h.size hb.size, fun k hk hne => (hb.block k (Nat.lt_of_lt_of_le hk h.size)).trans (h.block k hk hne)⟩
set_option maxRecDepth 100000 in
set_option maxHeartbeats 1600000 in
theorem msg_text (g : Nat) (v : Value) (l : List Fd) (num : Int) (s : ByteArray) (B : Nat) (w : World) (hg : w.heap[g]? = some (.cells #[v] 67 (0, 0))) (hown : OwnF w B v l) (hgB : g < B) (hB : B ≤ w.heap.size) (hl : l.length ≤ 16777216) :
    Calls Tryz.prog 16 #[.pointer (some ⟨g, 0, none⟩), .int .i64 num, .string s] w fun e w' => e = .returned (.tuple #[]) ∧ ∃ v' w1, OwnF w' B v' (l ++ [⟨num, 2, 0, s⟩]) ∧ w'.heap[g]? = some (.cells #[v'] 67 (0, 0)) ∧ w.grownBy w1 v.ownBlock ∧ w' = w1.setCell ⟨g, 0, none⟩ v' := by
  obtain ⟨i0, hi, hz0, hz1, hz2⟩ := info_parts Tryz.info112
  have c0 : w.cell? ⟨g, 0, none⟩ = some v := cell_of_row _ _ 0 _ 67 (0, 0) hg
  have Hg := Lib.hid hg
  have Ho := Lib.hid hown
  have hlt : g < w.heap.size := by omega
  clear hg hown
  go_enter Tryz.func16, Tryz.ntmps16
  go_wp2_with (at_builtin; refine wpList_append_f1 _ ⟨num, 2, 0, s⟩ rfl (.tmp 10) (.tmp 14) 65 rfl i0 _ rfl Tryz.underlying65 hi hz0 hz1 hz2 B v l rfl (Ho.out.alloc _) w.heap.size rfl (heap_alloc_new w _) (by omega) (by simp; omega) ?_; intro v' w2 ho2 hg2; obtain ⟨Aw, mw, cw, hvw⟩ : ∃ A m c, v' = .slice A m c := (by obtain ⟨A, c, e⟩ := ho2.form; exact ⟨A, _, c, e⟩); subst hvw; have hgv : w2.heap[g]? = some (.cells #[v] 67 (0, 0)) := (Ho.out.far hg2 hgB (by simp; omega)).trans ((Below.heap_alloc w _ g hlt).trans Hg.out); have q0 : w2.cell? ⟨g, 0, none⟩ = some v := cell_of_row _ _ 0 _ 67 (0, 0) hgv; have q1 : w2.frozen? ⟨g, 0, none⟩ = false := (by simp [World.frozen?, hgv]); have Hgv := Lib.hid hgv; have Ho2 := Lib.hid ho2; have Hg2 := Lib.hid hg2; clear hgv ho2 hg2)
  go_end0
  have h1 := heap_setCell_same w2 g 0 _ 67 (.slice Aw mw cw) Hgv.out
  exact ⟨rfl, _, w2, OwnF.set_far Ho2.out hgB _, by simpa using h1, grown_trans (grown_alloc w _ _) Hg2.out (fun k hk => .inl hk), rfl⟩
set_option maxRecDepth 100000 in
set_option maxHeartbeats 1600000 in
theorem msg_varint (g : Nat) (v : Value) (l : List Fd) (num x : Int) (B : Nat) (w : World) (hg : w.heap[g]? = some (.cells #[v] 67 (0, 0))) (hown : OwnF w B v l) (hgB : g < B) (hB : B ≤ w.heap.size) (hl : l.length ≤ 16777216) :
    Calls Tryz.prog 20 #[.pointer (some ⟨g, 0, none⟩), .int .i64 num, .int .i64 x] w fun e w' => e = .returned (.tuple #[]) ∧ ∃ v' w1, OwnF w' B v' (l ++ [⟨num, 0, IntKind.u64.wrap x, ⟨#[]⟩⟩]) ∧ w'.heap[g]? = some (.cells #[v'] 67 (0, 0)) ∧ w.grownBy w1 v.ownBlock ∧ w' = w1.setCell ⟨g, 0, none⟩ v' := by
  obtain ⟨i0, hi, hz0, hz1, hz2⟩ := info_parts Tryz.info112
  have c0 : w.cell? ⟨g, 0, none⟩ = some v := cell_of_row _ _ 0 _ 67 (0, 0) hg
  have Hg := Lib.hid hg
  have Ho := Lib.hid hown
  have hlt : g < w.heap.size := by omega
  clear hg hown
  go_enter Tryz.func20, Tryz.ntmps20
  go_wp2_with (at_builtin; refine wpList_append_f1 _ ⟨num, 0, IntKind.u64.wrap x, ⟨#[]⟩⟩ rfl (.tmp 10) (.tmp 15) 65 rfl i0 _ rfl Tryz.underlying65 hi hz0 hz1 hz2 B v l rfl (Ho.out.alloc _) w.heap.size rfl (heap_alloc_new w _) (by omega) (by simp; omega) ?_; intro v' w2 ho2 hg2; obtain ⟨Aw, mw, cw, hvw⟩ : ∃ A m c, v' = .slice A m c := (by obtain ⟨A, c, e⟩ := ho2.form; exact ⟨A, _, c, e⟩); subst hvw; have hgv : w2.heap[g]? = some (.cells #[v] 67 (0, 0)) := (Ho.out.far hg2 hgB (by simp; omega)).trans ((Below.heap_alloc w _ g hlt).trans Hg.out); have q0 : w2.cell? ⟨g, 0, none⟩ = some v := cell_of_row _ _ 0 _ 67 (0, 0) hgv; have q1 : w2.frozen? ⟨g, 0, none⟩ = false := (by simp [World.frozen?, hgv]); have Hgv := Lib.hid hgv; have Ho2 := Lib.hid ho2; have Hg2 := Lib.hid hg2; clear hgv ho2 hg2)
  go_end0
  have h1 := heap_setCell_same w2 g 0 _ 67 (.slice Aw mw cw) Hgv.out
  exact ⟨rfl, _, w2, OwnF.set_far Ho2.out hgB _, by simpa using h1, grown_trans (grown_alloc w _ _) Hg2.out (fun k hk => .inl hk), rfl⟩
/-- What a message's bytes are, or that they are too many. -/
def BytIs (l : List Fd) (w : World) (e : Ending) (w' : World) : Prop :=
  Below w.heap.size w w' ∧ ((AllGood l ∧ (textB l).size ≤ 16777216 ∧ e = .returned (.string (textB l))) ∨ (¬ (AllGood l ∧ (textB l).size ≤ 16777216) ∧ e = .panicked (refu 6)))
set_option maxRecDepth 100000 in
set_option maxHeartbeats 1600000 in
theorem msg_bytes (g : Nat) (v : Value) (l : List Fd) (B : Nat) (w : World) (hg : w.heap[g]? = some (.cells #[v] 67 (0, 0))) (hown : OwnF w B v l) (hok : ∀ f ∈ l, FdOk f) (hsz : (textB l).size ≤ 4611686018427387904) :
    Calls Tryz.prog 21 #[.pointer (some ⟨g, 0, none⟩)] w (BytIs l w) := by
  have c0 : w.cell? ⟨g, 0, none⟩ = some v := cell_of_row _ _ 0 _ 67 (0, 0) hg
  obtain ⟨A, c, rfl⟩ := hown.form
  obtain ⟨r, err, hw⟩ := wrIs_any l
  have HW := Lib.hid (pwrite_any l A l.length c w _ (hown.flds rfl) (Nat.le_refl _) hok hsz r err hw)
  clear hown hok hsz hg
  rcases hw with ⟨hn, rfl, rfl⟩ | ⟨hg2, hs2, rfl, rfl⟩ | ⟨hg2, hs2, rfl, rfl⟩
  · have Hn := Lib.hid (show ¬ (AllGood l ∧ (textB l).size ≤ 16777216) from fun h => hn h.1)
    clear hn
    go_enter Tryz.func21, Tryz.ntmps21
    go_wp2_with fail
    refine HW.out.mono ?_
    rintro e w1 ⟨rfl, hb⟩
    have Hb := Lib.hid hb
    clear hb
    go_wp2_with fail
    refine (must_no _ _).mono ?_
    rintro e w2 ⟨rfl, rfl⟩
    exact ⟨rfl, Hb.out, .inr ⟨Hn.out, rfl⟩⟩
  · have Hn := Lib.hid (show ¬ (AllGood l ∧ (textB l).size ≤ 16777216) from fun h => by omega)
    clear hg2 hs2
    go_enter Tryz.func21, Tryz.ntmps21
    go_wp2_with fail
    refine HW.out.mono ?_
    rintro e w1 ⟨rfl, hb⟩
    have Hb := Lib.hid hb
    clear hb
    go_wp2_with fail
    refine (must_no _ _).mono ?_
    rintro e w2 ⟨rfl, rfl⟩
    exact ⟨rfl, Hb.out, .inr ⟨Hn.out, rfl⟩⟩
  · have Hg2 := Lib.hid hg2
    have Hs2 := Lib.hid hs2
    clear hg2 hs2
    go_enter Tryz.func21, Tryz.ntmps21
    go_wp2_with fail
    refine HW.out.mono ?_
    rintro e w1 ⟨rfl, hb⟩
    have Hb := Lib.hid hb
    clear hb
    go_wp2_with fail
    refine (must_yes _ _).mono ?_
    rintro e w2 ⟨rfl, rfl⟩
    go_wp2
    go_ret
    exact ⟨Hb.out, .inl ⟨Hg2.out, Hs2.out, rfl⟩⟩
/-- The message in block g, since the world w0. -/
structure Msg (w0 : World) (g : Nat) (w : World) (l : List Fd) : Prop where
  lt : g < w0.heap.size
  only : Only g w0 w
  at_ : ∃ v, w.heap[g]? = some (.cells #[v] 67 (0, 0)) ∧ OwnF w w0.heap.size v l
section
variable {w0 w w' w1 : World} {g g' : Nat} {l m : List Fd}
theorem Msg.start (h : w0.heap[g]? = some (.cells #[.slice none 0 0] 67 (0, 0))) : Msg w0 g w0 [] :=
  ⟨(Array.getElem?_eq_some_iff.1 h).1, Only.refl _ _, _, h, ownF_nil _ _⟩
theorem Msg.begun (w : World) : Msg (w.alloc (.cells #[.slice none 0 0] 67)) w.heap.size (w.alloc (.cells #[.slice none 0 0] 67)) [] := Msg.start (heap_alloc_new w _)
theorem Msg.below (h : Msg w0 g w l) (hb : Below w.heap.size w w') : Msg w0 g w' l := by
  obtain ⟨v, h1, h2⟩ := h.at_
  exact ⟨h.lt, only_below h.only hb, v, (hb.block g (Nat.lt_of_lt_of_le h.lt h.only.size)).trans h1, h2.below hb⟩
/-- Another message, begun later, leaves it. -/
theorem Msg.over (h : Msg w0 g w l) (hm : Msg w g' w' m) (h1 : w0.heap.size ≤ g') (hc : ∃ v, w.heap[g']? = some (.cells #[v] 67 (0, 0))) : Msg w0 g w' l := by
  obtain ⟨v, h3, h2⟩ := h.at_
  obtain ⟨u, hu⟩ := hc
  have ho := hm.only
  have hlt := h.lt
  refine ⟨h.lt, ⟨ho.os.trans h.only.os, ho.tape.trans h.only.tape, ho.output.trans h.only.output, Nat.le_trans h.only.size ho.size, fun k hk hne => (ho.block k (Nat.lt_of_lt_of_le hk h.only.size) (by omega)).trans (h.only.block k hk hne)⟩, v, (ho.block g (Nat.lt_of_lt_of_le h.lt h.only.size) (by omega)).trans h3, ⟨h2.1.1, ?_⟩, h2.2⟩
  rcases h2.1.2 with h4 | ⟨b, cap, cur, e1, hB, hb, r⟩
  · exact .inl h4
  · refine .inr ⟨b, cap, cur, e1, hB, ?_, r⟩
    have hbl : b < w.heap.size := (Array.getElem?_eq_some_iff.1 hb).1
    have hne : b ≠ g' := by
      intro e
      subst e
      rw [hu] at hb
      simp at hb
    exact (ho.block b hbl hne).trans hb
theorem Msg.cell (h : Msg w0 g w l) {k : Nat} (hk : k < w0.heap.size) (hne : k ≠ g) : w.heap[k]? = w0.heap[k]? := h.only.block k hk hne
end
/-- What a message's operation leaves. -/
def MsgIs (w0 : World) (g : Nat) (l : List Fd) (e : Ending) (w' : World) : Prop := e = .returned (.tuple #[]) ∧ Msg w0 g w' l
theorem mtext {w0 w : World} {g : Nat} {l : List Fd} (h : Msg w0 g w l) (hl : l.length ≤ 16777216) (num : Int) (s : ByteArray) : Calls Tryz.prog 16 #[.pointer (some ⟨g, 0, none⟩), .int .i64 num, .string s] w (MsgIs w0 g (l ++ [⟨num, 2, 0, s⟩])) := by
  obtain ⟨v, h1, h2⟩ := h.at_
  refine (msg_text g v l num s w0.heap.size w h1 h2 h.lt h.only.size hl).mono ?_
  rintro e w' ⟨rfl, v', w1, ho, hg, hgr, rfl⟩
  exact ⟨rfl, h.lt, (only_grown h.only hgr fun k hk => (World.ownsRow.lt h2.1 k hk).1).set_ _ _, v', hg, ho⟩
theorem mvarint {w0 w : World} {g : Nat} {l : List Fd} (h : Msg w0 g w l) (hl : l.length ≤ 16777216) (num x : Int) : Calls Tryz.prog 20 #[.pointer (some ⟨g, 0, none⟩), .int .i64 num, .int .i64 x] w (MsgIs w0 g (l ++ [⟨num, 0, IntKind.u64.wrap x, ⟨#[]⟩⟩])) := by
  obtain ⟨v, h1, h2⟩ := h.at_
  refine (msg_varint g v l num x w0.heap.size w h1 h2 h.lt h.only.size hl).mono ?_
  rintro e w' ⟨rfl, v', w1, ho, hg, hgr, rfl⟩
  exact ⟨rfl, h.lt, (only_grown h.only hgr fun k hk => (World.ownsRow.lt h2.1 k hk).1).set_ _ _, v', hg, ho⟩

/-- A bound of the bytes. -/
def bulk : List Fd → Nat
  | [] => 0
  | f :: l => f.b.size + 20 + bulk l
theorem form_le (f : Fd) : (formB f).size ≤ f.b.size + 20 := by
  unfold formB headB
  rw [size_app]
  have h1 := venc_sz (f.num * 8 + f.kind)
  have h2 : (contB f).size ≤ f.b.size + 10 := by
    unfold contB
    split
    · have := venc_sz f.u; omega
    split
    · rw [leS_size]; omega
    split
    · rw [leS_size]; omega
    · rw [size_app]
      have := venc_sz (f.b.size : Int); omega
  omega
theorem text_le (l : List Fd) : (textB l).size ≤ bulk l := by
  induction l with
  | nil => exact Nat.le_refl _
  | cons f l ih =>
    simp only [textB, bulk]
    rw [size_app]
    have := form_le f
    omega
theorem mbytes {w0 w : World} {g : Nat} {l : List Fd} (h : Msg w0 g w l) (hok : ∀ f ∈ l, FdOk f) (hsz : bulk l ≤ 4611686018427387904) : Calls Tryz.prog 21 #[.pointer (some ⟨g, 0, none⟩)] w (BytIs l w) := by
  obtain ⟨v, h1, h2⟩ := h.at_
  exact msg_bytes g v l _ w h1 h2 hok (Nat.le_trans (text_le l) hsz)
/-- The plain bytes of a message. -/
instance (f : Fd) : Decidable (GoodF f) := inferInstanceAs (Decidable (_ ∧ _))
instance (l : List Fd) : Decidable (AllGood l) := inferInstanceAs (Decidable (∀ f ∈ l, _))
def bytE (l : List Fd) : Except Int ByteArray := if AllGood l ∧ (textB l).size ≤ 16777216 then .ok (textB l) else .error 6
/-- What a writer leaves. -/
def WroteIs (r : Except Int ByteArray) (w : World) (e : Ending) (w' : World) : Prop := Below w.heap.size w w' ∧ ((∃ b, r = .ok b ∧ e = .returned (.string b)) ∨ (∃ err, r = .error err ∧ e = .panicked (refu err)))
theorem bytIs_wrote {l : List Fd} {w w' : World} {e : Ending} (h : BytIs l w e w') : WroteIs (bytE l) w e w' := by
  refine ⟨h.1, ?_⟩
  rcases h.2 with ⟨h1, h2, h3⟩ | ⟨h1, h2⟩
  · exact .inl ⟨_, by unfold bytE; rw [if_pos ⟨h1, h2⟩], h3⟩
  · exact .inr ⟨_, by unfold bytE; rw [if_neg h1], h2⟩
theorem wrote {w0 w : World} {g : Nat} {l : List Fd} (h : Msg w0 g w l) (hok : ∀ f ∈ l, FdOk f) (hsz : bulk l ≤ 4611686018427387904) : Calls Tryz.prog 21 #[.pointer (some ⟨g, 0, none⟩)] w (WroteIs (bytE l) w) := (mbytes h hok hsz).mono fun _ _ => bytIs_wrote
theorem u64w (x : Int) : 0 ≤ IntKind.u64.wrap x ∧ IntKind.u64.wrap x < B64 := u64_bd x
theorem fdOk_v (num x : Int) (h0 : 0 ≤ num) (h1 : num ≤ 1000) : FdOk ⟨num, 0, IntKind.u64.wrap x, ⟨#[]⟩⟩ := ⟨by dsimp only; omega, by dsimp only; omega, by dsimp only; omega, by dsimp only; omega, (u64w x).1, (u64w x).2, by exact Nat.zero_le _⟩
theorem fdOk_t (num : Int) (s : ByteArray) (h0 : 0 ≤ num) (h1 : num ≤ 1000) (hs : s.size ≤ 140737488351232) : FdOk ⟨num, 2, 0, s⟩ := ⟨by dsimp only; omega, by dsimp only; omega, by dsimp only; omega, by dsimp only; omega, by show (0 : Int) ≤ 0; omega, by show (0 : Int) < B64; unfold B64; omega, hs⟩
/-- A message that is read alone. -/
def MsgR (w : World) (g : Nat) (l : List Fd) : Prop := ∃ v B, w.heap[g]? = some (.cells #[v] 67 (0, 0)) ∧ OwnF w B v l
theorem Msg.reads {w0 w : World} {g : Nat} {l : List Fd} (h : Msg w0 g w l) : MsgR w g l := by
  obtain ⟨v, h1, h2⟩ := h.at_
  exact ⟨v, _, h1, h2⟩
theorem MsgR.below {w w' : World} {g : Nat} {l : List Fd} (h : MsgR w g l) (hb : Below w.heap.size w w') : MsgR w' g l := by
  obtain ⟨v, B, h1, h2⟩ := h
  exact ⟨v, B, (hb.block g (Array.getElem?_eq_some_iff.1 h1).1).trans h1, h2.below hb⟩
theorem MsgR.over {w w' : World} {g g' : Nat} {l : List Fd} (h : MsgR w g l) (ho : Only g' w w') (hne : g ≠ g') (hc : ∃ v, w.heap[g']? = some (.cells #[v] 67 (0, 0))) : MsgR w' g l := by
  obtain ⟨v, B, h1, h2⟩ := h
  obtain ⟨u, hu⟩ := hc
  refine ⟨v, B, (ho.block g (Array.getElem?_eq_some_iff.1 h1).1 hne).trans h1, ⟨h2.1.1, ?_⟩, h2.2⟩
  rcases h2.1.2 with h4 | ⟨b, cap, cur, e1, hB, hb, r⟩
  · exact .inl h4
  · refine .inr ⟨b, cap, cur, e1, hB, ?_, r⟩
    have hbl : b < w.heap.size := (Array.getElem?_eq_some_iff.1 hb).1
    have hne : b ≠ g' := by
      intro e
      subst e
      rw [hu] at hb
      simp at hb
    exact (ho.block b hbl hne).trans hb
theorem wroteR {w : World} {g : Nat} {l : List Fd} (h : MsgR w g l) (hok : ∀ f ∈ l, FdOk f) (hsz : bulk l ≤ 4611686018427387904) : Calls Tryz.prog 21 #[.pointer (some ⟨g, 0, none⟩)] w (WroteIs (bytE l) w) := by
  obtain ⟨v, B, h1, h2⟩ := h
  exact (msg_bytes g v l B w h1 h2 hok (Nat.le_trans (text_le l) hsz)).mono fun _ _ => bytIs_wrote
end Go.Proofs.YtbilddeepnnogaaGreatDoor
end
