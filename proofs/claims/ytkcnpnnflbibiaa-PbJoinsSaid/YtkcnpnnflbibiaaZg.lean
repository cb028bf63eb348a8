/- The walks: bytes put together; a number in so many bytes. The walks: what stands behind a field's head. -/
import Derived.Test.YtkcnpnnflbibiaaZc
import Derived.Lib.AppendStr
import Derived.Test.YtkcnpnnflbibiaaZd
import Derived.Deep.RegionHeld3
set_option linter.unusedVariables false
/- The walks: bytes put together; a number in so many bytes. -/
namespace Go.Proofs.Ytkcnpnnflbibiaa
open Go.RowKit

def bytesOf (s : ByteArray) : List Int := s.data.toList.map fun b => (b.toNat : Int)
theorem bytesOf_len (s : ByteArray) : (bytesOf s).length = s.size := by rw [bytesOf, List.length_map, Array.length_toList]; rfl
theorem bytesOf_app (s t : ByteArray) : bytesOf (s ++ t) = bytesOf s ++ bytesOf t := by simp [bytesOf]
theorem str_bytes (s : ByteArray) : strOfNums (bytesOf s) = s := by
  apply ByteArray.ext
  apply Array.toList_inj.1
  rw [strOfNums_data, bytesOf, List.map_map]
  conv => rhs; rw [← List.map_id s.data.toList]
  apply List.map_congr_left
  intro b _
  simp
theorem str_app (a b : List Int) : strOfNums (a ++ b) = strOfNums a ++ strOfNums b := by
  apply ByteArray.ext
  apply Array.toList_inj.1
  rw [strOfNums_data, ByteArray.toList_data_append, strOfNums_data, strOfNums_data, List.map_append]
/-- The call's own bytes, as a text. -/
def OwnS (w : World) (B : Nat) (v : Value) (s : ByteArray) : Prop := OwnB w B v (bytesOf s)
theorem ownS_nil (w : World) (B : Nat) : OwnS w B (.slice none 0 0) ⟨#[]⟩ := ownB_nil w B
theorem OwnS.form {w : World} {B : Nat} {v : Value} {s : ByteArray} (h : OwnS w B v s) : ∃ A c, v = .slice A s.size c := by
  obtain ⟨A, c, e⟩ := ownB_form h
  rw [bytesOf_len] at e
  exact ⟨A, c, e⟩
theorem OwnB.below {w w' : World} {B : Nat} {v : Value} {l : List Int} (h : OwnB w B v l) (hb : Below w.heap.size w w') : OwnB w' B v l := by
  refine ⟨⟨h.1.1, ?_⟩, h.2⟩
  rcases h.1.2 with h1 | ⟨g, cap, cur, e, hB, hg, r⟩
  · exact .inl h1
  · exact .inr ⟨g, cap, cur, e, hB, (hb.block g (Array.getElem?_eq_some_iff.1 hg).1).trans hg, r⟩
theorem OwnS.below {w w' : World} {B : Nat} {v : Value} {s : ByteArray} (h : OwnS w B v s) (hb : Below w.heap.size w w') : OwnS w' B v s := OwnB.below h hb
theorem OwnS.grown {a w w' : World} {B : Nat} {v : Value} {s : ByteArray} (h : OwnS w B v s) (hb : Below B a w) (hg : w.grownBy w' v.ownBlock) (hB : B ≤ w.heap.size) : Below B a w' :=
  hb.grown hg hB fun k hk => (h.1.lt k hk).1
theorem run_text {P : Program} (w : World) (src dst : TypeId) (hs : P.underlying src = some (.slice 5)) (he : P.underlying 5 = some (.int .u8)) (hd : P.underlying dst = some .string)
    (B : Nat) (v : Value) (s : ByteArray) (h : OwnS w B v s) : (convert src dst v).run P w = .ok (.string s) w := by
  have := run_string_own w src dst hs he hd B v (bytesOf s) h
  rwa [str_bytes] at this
/-- A text more. -/
theorem wpList_append_s {P : Program} (w : World) {ops : Array Oper} {rest : List Oper} {o : Oper} {a : Act} {Q : Exit → Act → World → Prop} (hgd : o.guard = none) (sl x : Operand) (t u : TypeId)
    (ho : o.op = .call { callee := .builtin .append, args := #[sl, x], argTypes := #[t, u] })
    (i : TypeInfo) (ht : P.underlying t = some (.slice 5)) (hu : P.underlying u = some .string) (hi : P.info? 5 = some i) (hz : i.zero = some (.int .u8 0)) (hsize : i.size = 1) (hby : i.bytes = 1)
    (B : Nat) (v : Value) (s : ByteArray) (hs : a.eval sl = v) (hown : OwnS w B v s) (y : ByteArray) (hx : a.eval x = .string y)
    (hlen : s.size + y.size ≤ 140737488355328) (hbase : B ≤ w.heap.size)
    (h : ∀ v' w', OwnS w' B v' (s ++ y) → w.grownBy w' v.ownBlock → wpList P ops Q rest (a.put o.dst v') w') : wpList P ops Q (o :: rest) a w := by
  have hl := bytesOf_len s
  refine Lib.wpList_append_own_string w hgd sl x t u ho B 5 i ht hu hi hz hsize hby v (bytesOf s).length ((bytesOf s).map (Value.int .u8)) hs hown.1 y hx (by unfold maxLen; omega) (by omega) hbase ?_
  intro v' w' h2 h3 _
  refine h v' w' ⟨?_, by rw [bytesOf_len, ByteArray.size_append]; unfold maxLen; omega⟩ h3
  rw [bytesOf_app, List.length_append, bytesOf_len y, List.map_append]
  have e : (bytesOf y).map (Value.int .u8) = Lib.strCells y := by simp [bytesOf, Lib.strCells, List.map_map]
  rw [e]
  exact h2

/-- The bytes of a number, the lowest first. -/
def byt (u : Int) (i : Nat) : Int := u / 256 ^ i % 256
def leS (n : Nat) (u : Int) : List Int := (List.range n).map (byt u)
def lst (n k : Nat) (u : Int) : List Int := (List.range n).map fun i => if i < k then byt u i else 0
theorem lst_len (n k : Nat) (u : Int) : (lst n k u).length = n := by simp [lst]
theorem lst_zero (n : Nat) (u : Int) : lst n 0 u = List.replicate n 0 := by
  apply List.ext_getElem
  · simp [lst]
  · intro i h1 h2; simp [lst]
theorem lst_full (n : Nat) (u : Int) : lst n n u = leS n u := by
  apply List.ext_getElem
  · simp [lst, leS]
  · intro i h1 h2
    simp [lst] at h1
    simp [lst, leS, h1]
theorem lst_set (n k : Nat) (u : Int) : (lst n k u).set k (byt u k) = lst n (k + 1) u := by
  apply List.ext_getElem
  · simp [lst]
  · intro i h1 h2
    rw [List.getElem_set]
    simp only [lst, List.getElem_map, List.getElem_range]
    by_cases hik : k = i
    · subst hik; simp
    · rw [if_neg hik]
      by_cases h : i < k
      · rw [if_pos h, if_pos (by omega)]
      · rw [if_neg h, if_neg (by omega)]
theorem ownB_set {w : World} {B g n c : Nat} {l : List Int} (h : OwnB w B (.slice (some ⟨g, 0, none⟩) n c) l) (hn : l.length = n) (j : Nat) (x : Int) :
    OwnB (w.setCell ⟨g, j, none⟩ (.int .u8 x)) B (.slice (some ⟨g, 0, none⟩) n c) (l.set j x) := by
  subst hn
  have h1 := (h.1.stored j (.int .u8 x)).1
  rw [← List.map_set] at h1
  exact ⟨by rw [List.length_set]; exact h1, by rw [List.length_set]; exact h.2⟩
def zbytes (n : Nat) : Array Value := madeCells (Value.int .u8 0).cells (n * 1)
theorem run_make_bytes (n : Nat) (hn : n ≤ 140737488355328) (w : World) : (Instr.makeSlice 51 (.int .i64 (n : Int)) (.int .i64 (n : Int))).run Try.prog w = .ok (.slice (some ⟨w.heap.size, 0, none⟩) n n) (w.alloc (.cells (zbytes n) 5)) := by
  obtain ⟨i0, hi, hz0, hz1, hz2⟩ := info_parts Try.info5
  have h := run_make (P := Try.prog) w 51 5 i0 (.int .u8 0) Try.underlying51 hi hz0 .i64 .i64 n n (by omega) (by omega) (by rw [hz2]; omega) (by omega)
  rw [h, hz1]
  rfl
theorem ownB_made (w : World) (B n : Nat) (hB : B ≤ w.heap.size) (hn : n ≤ maxLen) : OwnB (w.alloc (.cells (zbytes n) 5)) B (.slice (some ⟨w.heap.size, 0, none⟩) n n) (List.replicate n 0) := by
  have h := World.ownsRow_lit (base := B) (e := 5) (size := 1) w (madeCells (Value.int .u8 0).cells (n * 1)) n hB hn (by rw [size_madeCells])
  have e : (madeCells (Value.int .u8 0).cells (n * 1)).toList = (List.replicate n (0 : Int)).map (Value.int .u8) := by
    show (madeCells #[Value.int .u8 0] (n * 1)).toList = _
    rw [toList_madeCells_one]; simp
  rw [e] at h
  exact ⟨by rw [List.length_replicate]; exact h, by rw [List.length_replicate]; exact hn⟩

set_option maxRecDepth 100000 in
set_option maxHeartbeats 800000 in
theorem fixed_w (u : Int) (n : Nat) (hn : n ≤ 8) (w : World) (h0 : 0 ≤ u) (h1 : u < B64) :
    Calls Try.prog 92 #[.int .u64 u, .int .i64 n] w fun e w' => e = .returned (.string (strOfNums (leS n u))) ∧ Below w.heap.size w w' := by
  have H1 := Lib.hid h1
  have Hcv := Lib.hid (fun wx v l B (h : OwnB wx B v l) => run_string_own (P := Try.prog) wx 51 9 Try.underlying51 Try.underlying5 Try.underlying9 B v l h)
  have hmk := run_make_bytes n (by omega)
  clear h1
  go_enter Try.func92, Try.ntmps92
  go_wp2_with fail
  go_loopw [6, 11] (fun _ i wr => ∃ k : Nat, k ≤ n ∧ i = .int .i64 k ∧ OwnB wr w.heap.size (.slice (some ⟨w.heap.size, 0, none⟩) n n) (lst n k u) ∧ Below w.heap.size w wr) (fun _ i _ => n - (intOf i).toNat)
  case atStart => exact ⟨0, by omega, rfl, by rw [lst_zero]; exact ownB_made w _ n (Nat.le_refl _) (by unfold maxLen; omega), (Below.refl _ _).alloc (Nat.le_refl _) _⟩
  case round =>
    obtain ⟨k, hk, rfl, ho, hb⟩ := hrel
    by_cases hlt : k < n
    · have hon := ho.1
      rw [lst_len] at hon
      have f0 := hon.frozenAt k
      have c0 := hon.cellAt k (by omega)
      obtain ⟨x, hx⟩ : ∃ x, ((lst n k u).map (Value.int .u8))[k]? = some x := ⟨_, List.getElem?_eq_getElem (by rw [List.length_map, lst_len]; exact hlt)⟩
      rw [hx] at c0
      have Ho := Lib.hid ho
      clear ho hx hon
      go_wp2
      go_roundw
      case rel =>
        refine ⟨k + 1, by omega, by go_num, ?_, hb.setCell (Nat.le_refl _) _⟩
        have h := ownB_set Ho.out (lst_len n k u) k (byt u k)
        rw [lst_set] at h
        have e : u / 2 ^ (8 * k) % 256 = byt u k := by unfold byt; rw [show (2 : Int) ^ (8 * k) = 256 ^ k by rw [Int.pow_mul]; rfl]
        rw [e]
        exact h
      case measure => simp [intOf]; omega
    · obtain rfl : k = n := by omega
      have hc := Hcv.out _ _ _ _ ho
      rw [lst_full] at hc
      have Hb := Lib.hid hb
      clear ho hb
      go_wp2
      go_ret
      exact ⟨rfl, Hb.out⟩
end Go.Proofs.Ytkcnpnnflbibiaa

/- The walks: what stands behind a field's head. -/
namespace Go.Proofs.Ytkcnpnnflbibiaa
open Go.RowKit

/-- A field that has a form. -/
def GoodF (f : Fd) : Prop := 1 ≤ f.num ∧ f.num ≤ 536870911 ∧ ((f.kind = 0 ∧ f.b = ⟨#[]⟩) ∨ (f.kind = 1 ∧ f.b = ⟨#[]⟩) ∨ (f.kind = 5 ∧ f.b = ⟨#[]⟩ ∧ f.u ≤ 4294967295) ∨ (f.kind = 2 ∧ f.u = 0))
def headB (f : Fd) : ByteArray := strOfNums (venc (f.num * 8 + f.kind))
def contB (f : Fd) : ByteArray := if f.kind = 0 then strOfNums (venc f.u) else if f.kind = 1 then strOfNums (leS 8 f.u) else if f.kind = 5 then strOfNums (leS 4 f.u) else strOfNums (venc f.b.size) ++ f.b
def formB (f : Fd) : ByteArray := headB f ++ contB f
/-- A field that Go's values can hold. -/
structure FdOk (f : Fd) : Prop where
  n0 : -9223372036854775808 ≤ f.num
  n1 : f.num ≤ 9223372036854775807
  k0 : -9223372036854775808 ≤ f.kind
  k1 : f.kind ≤ 9223372036854775807
  u0 : 0 ≤ f.u
  u1 : f.u < B64
  b : f.b.size ≤ 140737488351232
/-- What content leaves. -/
def ContIs (f : Fd) (w : World) (e : Ending) (w' : World) : Prop := ∃ c ok, e = .returned (.tuple #[.string c, .bool ok]) ∧ (ok = true → GoodF f ∧ c = contB f) ∧ (ok = false → ¬ GoodF f) ∧ Below w.heap.size w w'
theorem cont_ret {f : Fd} {w w' : World} {c : ByteArray} {ok : Bool} (hb : Below w.heap.size w w') (h : ok = true → GoodF f ∧ c = contB f) (g : ok = false → ¬ GoodF f) : ContIs f w (.returned (.tuple #[.string c, .bool ok])) w' :=
  ⟨c, ok, rfl, h, g, hb⟩
theorem empty_ne {b : ByteArray} (h : b ≠ ⟨#[]⟩) : b.toList.isEmpty = false := by
  rw [ByteArray.toList_eq]
  cases hl : b.data.toList with
  | nil =>
    refine absurd ?_ h
    apply ByteArray.ext
    apply Array.toList_inj.1
    rw [hl]
  | cons _ _ => rfl
theorem num_cases (num : Int) (b : ByteArray) : num < 1 ∨ 536870911 < num ∨ (1 ≤ num ∧ num ≤ 536870911 ∧ b ≠ ⟨#[]⟩) ∨ (1 ≤ num ∧ num ≤ 536870911 ∧ b = ⟨#[]⟩) := by
  by_cases h1 : num < 1
  · exact .inl h1
  · by_cases h2 : 536870911 < num
    · exact .inr (.inl h2)
    · by_cases h3 : b = ⟨#[]⟩
      · exact .inr (.inr (.inr ⟨by omega, by omega, h3⟩))
      · exact .inr (.inr (.inl ⟨by omega, by omega, h3⟩))

set_option maxRecDepth 100000 in
set_option maxHeartbeats 1600000 in
theorem content_0 (num u : Int) (b : ByteArray) (w : World) (h : FdOk ⟨num, 0, u, b⟩) : Calls Try.prog 82 #[(Fd.mk num 0 u b).val] w (ContIs ⟨num, 0, u, b⟩ w) := by
  have h0 := h.u0
  have H1 := Lib.hid h.u1
  dsimp only at h0
  clear h
  unfold Fd.val
  rcases num_cases num b with hn | hn | ⟨hn1, hn2, hb⟩ | ⟨hn1, hn2, rfl⟩
  · go_enter Try.func82, Try.ntmps82
    go_wp2_with fail
    refine (varint_w _ _ h0 H1.out).mono ?_
    rintro e w1 ⟨rfl, hb1⟩
    go_wp2
    go_ret2
    exact cont_ret (((Below.refl _ _).alloc (Nat.le_refl _) _).trans (hb1.mono (by simp))) (fun h => by cases h) (fun _ h => by have := h.1; dsimp only at this; omega)
  · go_enter Try.func82, Try.ntmps82
    go_wp2_with fail
    refine (varint_w _ _ h0 H1.out).mono ?_
    rintro e w1 ⟨rfl, hb1⟩
    go_wp2
    go_ret2
    exact cont_ret (((Below.refl _ _).alloc (Nat.le_refl _) _).trans (hb1.mono (by simp))) (fun h => by cases h) (fun _ h => by have := h.2.1; dsimp only at this; omega)
  · have he := empty_ne hb
    have Hb := Lib.hid hb
    clear hb
    go_enter Try.func82, Try.ntmps82
    go_wp2_with fail
    refine (varint_w _ _ h0 H1.out).mono ?_
    rintro e w1 ⟨rfl, hb1⟩
    go_wp2
    go_ret2
    exact cont_ret (((Below.refl _ _).alloc (Nat.le_refl _) _).trans (hb1.mono (by simp))) (fun h => by cases h) (fun _ h => by rcases h.2.2 with ⟨h, h2⟩ | ⟨h, h2⟩ | ⟨h, h2, _⟩ | ⟨h, _⟩ <;> first | exact Hb.out h2 | (dsimp only at h; omega))
  · go_enter Try.func82, Try.ntmps82
    go_wp2_with fail
    refine (varint_w _ _ h0 H1.out).mono ?_
    rintro e w1 ⟨rfl, hb1⟩
    go_wp2
    go_ret2
    exact cont_ret (((Below.refl _ _).alloc (Nat.le_refl _) _).trans (hb1.mono (by simp))) (fun _ => ⟨⟨hn1, hn2, .inl ⟨rfl, rfl⟩⟩, rfl⟩) (fun h => by cases h)
set_option maxRecDepth 100000 in
set_option maxHeartbeats 1600000 in
theorem content_1 (num u : Int) (b : ByteArray) (w : World) (h : FdOk ⟨num, 1, u, b⟩) : Calls Try.prog 82 #[(Fd.mk num 1 u b).val] w (ContIs ⟨num, 1, u, b⟩ w) := by
  have h0 := h.u0
  have H1 := Lib.hid h.u1
  dsimp only at h0
  clear h
  unfold Fd.val
  have T : ∀ w, Calls Try.prog 92 #[.int .u64 u, .int .i64 8] w fun e w' => e = .returned (.string (strOfNums (leS 8 u))) ∧ Below w.heap.size w w' := fun w => fixed_w u 8 (by omega) w h0 H1.out
  rcases num_cases num b with hn | hn | ⟨hn1, hn2, hb⟩ | ⟨hn1, hn2, rfl⟩
  · go_enter Try.func82, Try.ntmps82
    go_wp2_with fail
    refine (T _).mono ?_
    rintro e w1 ⟨rfl, hb1⟩
    go_wp2
    go_ret2
    exact cont_ret (((Below.refl _ _).alloc (Nat.le_refl _) _).trans (hb1.mono (by simp))) (fun h => by cases h) (fun _ h => by have := h.1; dsimp only at this; omega)
  · go_enter Try.func82, Try.ntmps82
    go_wp2_with fail
    refine (T _).mono ?_
    rintro e w1 ⟨rfl, hb1⟩
    go_wp2
    go_ret2
    exact cont_ret (((Below.refl _ _).alloc (Nat.le_refl _) _).trans (hb1.mono (by simp))) (fun h => by cases h) (fun _ h => by have := h.2.1; dsimp only at this; omega)
  · have he := empty_ne hb
    have Hb := Lib.hid hb
    clear hb
    go_enter Try.func82, Try.ntmps82
    go_wp2_with fail
    refine (T _).mono ?_
    rintro e w1 ⟨rfl, hb1⟩
    go_wp2
    go_ret2
    exact cont_ret (((Below.refl _ _).alloc (Nat.le_refl _) _).trans (hb1.mono (by simp))) (fun h => by cases h) (fun _ h => by rcases h.2.2 with ⟨h, h2⟩ | ⟨h, h2⟩ | ⟨h, h2, _⟩ | ⟨h, _⟩ <;> first | exact Hb.out h2 | (dsimp only at h; omega))
  · go_enter Try.func82, Try.ntmps82
    go_wp2_with fail
    refine (T _).mono ?_
    rintro e w1 ⟨rfl, hb1⟩
    go_wp2
    go_ret2
    exact cont_ret (((Below.refl _ _).alloc (Nat.le_refl _) _).trans (hb1.mono (by simp))) (fun _ => ⟨⟨hn1, hn2, .inr (.inl ⟨rfl, rfl⟩)⟩, rfl⟩) (fun h => by cases h)
end Go.Proofs.Ytkcnpnnflbibiaa
