/- Plain laws on lists of integers for the shape statements: counts, strides, offsets, coordinates, spreading. No program in sight. -/
namespace Go.Proofs.Ytanghkleojjplaa

def ix (l : List Int) (j : Nat) : Int := l.getD j 0
def prod : List Int → Int
  | [] => 1
  | d :: r => d * prod r
def Pos (l : List Int) : Prop := ∀ d ∈ l, 1 ≤ d

theorem ix_zero (d : Int) (l : List Int) : ix (d :: l) 0 = d := rfl
theorem ix_succ (d : Int) (l : List Int) (j : Nat) : ix (d :: l) (j + 1) = ix l j := by simp [ix]
theorem ix_get (l : List Int) (j : Nat) (h : j < l.length) : ix l j = l[j] := by simp [ix, h]
theorem ix_get? (l : List Int) (j : Nat) (h : j < l.length) : l[j]? = some (ix l j) := by simp [ix, h]
theorem ix_mem (l : List Int) (j : Nat) (h : j < l.length) : ix l j ∈ l := by rw [ix_get l j h]; exact List.getElem_mem h
theorem take_ix (l : List Int) (k : Nat) (h : k < l.length) : l.take (k + 1) = l.take k ++ [ix l k] := by
  rw [List.take_succ_eq_append_getElem h, ix_get l k h]
theorem drop_ix (l : List Int) (k : Nat) (h : k < l.length) : l.drop k = ix l k :: l.drop (k + 1) := by
  rw [ix_get l k h]; exact List.drop_eq_getElem_cons h
theorem ix_append_left (a b : List Int) (j : Nat) (h : j < a.length) : ix (a ++ b) j = ix a j := by
  simp [ix, List.getElem?_append_left h]
theorem ix_append_right (a b : List Int) (j : Nat) : ix (a ++ b) (a.length + j) = ix b j := by
  simp [ix, List.getElem?_append_right]
theorem ix_drop (l : List Int) (k j : Nat) : ix (l.drop k) j = ix l (k + j) := by simp [ix]
theorem ix_take (l : List Int) (k j : Nat) (h : j < k) : ix (l.take k) j = ix l j := by simp [ix, List.getElem?_take, h]
theorem pos_ix {l : List Int} (h : Pos l) (j : Nat) (hj : j < l.length) : 1 ≤ ix l j := h _ (ix_mem l j hj)
theorem pos_of_ix {l : List Int} (h : ∀ j, j < l.length → 1 ≤ ix l j) : Pos l := by
  intro d hd
  obtain ⟨j, hj, rfl⟩ := List.getElem_of_mem hd
  rw [← ix_get l j hj]; exact h j hj
theorem pos_drop {l : List Int} (h : Pos l) (k : Nat) : Pos (l.drop k) := fun d hd => h d (List.mem_of_mem_drop hd)
theorem pos_take {l : List Int} (h : Pos l) (k : Nat) : Pos (l.take k) := fun d hd => h d (List.mem_of_mem_take hd)
theorem pos_cons {d : Int} {l : List Int} (h : Pos (d :: l)) : 1 ≤ d ∧ Pos l := ⟨h d (by simp), fun x hx => h x (by simp [hx])⟩
theorem pos_append {a b : List Int} : Pos (a ++ b) ↔ Pos a ∧ Pos b := by
  constructor
  · intro h; exact ⟨fun d hd => h d (by simp [hd]), fun d hd => h d (by simp [hd])⟩
  · rintro ⟨h1, h2⟩ d hd
    rcases List.mem_append.1 hd with h | h
    · exact h1 d h
    · exact h2 d h

theorem ext_ix {a b : List Int} (hl : a.length = b.length) (h : ∀ j, j < a.length → ix a j = ix b j) : a = b := by
  apply List.ext_getElem hl
  intro j h1 h2
  have := h j h1
  rwa [ix_get a j h1, ix_get b j h2] at this

theorem prod_append (a b : List Int) : prod (a ++ b) = prod a * prod b := by
  induction a with
  | nil => simp [prod]
  | cons d r ih => simp [prod, ih, Int.mul_assoc]
theorem prod_pos {l : List Int} (h : Pos l) : 1 ≤ prod l := by
  induction l with
  | nil => simp [prod]
  | cons d r ih =>
    obtain ⟨h1, h2⟩ := pos_cons h
    have := ih h2
    simp only [prod]
    have h3 : 1 * 1 ≤ d * prod r := Int.mul_le_mul h1 this (by omega) (by omega)
    omega
theorem le_mul_pos {a b : Int} (ha : 0 ≤ a) (hb : 1 ≤ b) : a ≤ a * b := by
  have : a * 1 ≤ a * b := Int.mul_le_mul_of_nonneg_left hb ha
  omega
theorem le_pos_mul {a b : Int} (ha : 0 ≤ a) (hb : 1 ≤ b) : a ≤ b * a := by rw [Int.mul_comm]; exact le_mul_pos ha hb
theorem prod_take_le {l : List Int} (h : Pos l) (k : Nat) : prod (l.take k) ≤ prod l := by
  have e := prod_append (l.take k) (l.drop k)
  rw [List.take_append_drop] at e
  rw [e]
  exact le_mul_pos (by have := prod_pos (pos_take h k); omega) (prod_pos (pos_drop h k))
theorem prod_drop_le {l : List Int} (h : Pos l) (k : Nat) : prod (l.drop k) ≤ prod l := by
  have e := prod_append (l.take k) (l.drop k)
  rw [List.take_append_drop] at e
  rw [e]
  exact le_pos_mul (by have := prod_pos (pos_drop h k); omega) (prod_pos (pos_take h k))
theorem prod_take_succ (l : List Int) (k : Nat) (h : k < l.length) : prod (l.take (k + 1)) = prod (l.take k) * ix l k := by
  rw [take_ix l k h, prod_append]; simp [prod]
theorem prod_drop_succ (l : List Int) (k : Nat) (h : k < l.length) : prod (l.drop k) = ix l k * prod (l.drop (k + 1)) := by
  rw [drop_ix l k h]; rfl

/-! ### Count -/
def errC (l : List Int) : Int := if l.any (fun d => decide (d < 1)) then 4 else if 6 < l.length then 6 else if 65536 < prod l then 6 else 0
def CountIs (l : List Int) (n err : Int) : Prop := errC l = err ∧ n = if err = 0 then prod l else 0
/-- A list of dimensions that may be. -/
def Good (l : List Int) : Prop := Pos l ∧ l.length ≤ 6 ∧ prod l ≤ 65536

theorem any_lt_iff (l : List Int) : l.any (fun d => decide (d < 1)) = true ↔ ¬ Pos l := by
  simp only [List.any_eq_true, decide_eq_true_eq, Pos]
  constructor
  · rintro ⟨d, hd, h⟩ hp; have := hp d hd; omega
  · intro h
    apply Classical.byContradiction
    intro hn
    apply h
    intro d hd
    apply Classical.byContradiction
    intro h1
    exact hn ⟨d, hd, by omega⟩
theorem countIs_good {l : List Int} (h : Good l) : CountIs l (prod l) 0 := by
  obtain ⟨h1, h2, h3⟩ := h
  have h0 : l.any (fun d => decide (d < 1)) = false := by
    cases e : l.any (fun d => decide (d < 1))
    · rfl
    · exact absurd h1 ((any_lt_iff l).1 e)
  refine ⟨?_, by simp⟩
  unfold errC
  rw [h0, if_neg (by simp), if_neg (by omega), if_neg (by omega)]
theorem countIs_4 {l : List Int} (h : ¬ Pos l) : CountIs l 0 4 := by
  refine ⟨?_, by simp⟩
  unfold errC
  rw [if_pos ((any_lt_iff l).2 h)]
theorem countIs_6 {l : List Int} (h1 : Pos l) (h2 : 6 < l.length ∨ 65536 < prod l) : CountIs l 0 6 := by
  have h0 : l.any (fun d => decide (d < 1)) = false := by
    cases e : l.any (fun d => decide (d < 1))
    · rfl
    · exact absurd h1 ((any_lt_iff l).1 e)
  refine ⟨?_, by simp⟩
  unfold errC
  rw [h0, if_neg (by simp)]
  by_cases h6 : 6 < l.length
  · rw [if_pos h6]
  · rw [if_neg h6, if_pos (by omega)]
/-- Three ways. -/
theorem count_ways (l : List Int) : (Good l ∧ CountIs l (prod l) 0) ∨ (¬ Good l ∧ ¬ Pos l ∧ CountIs l 0 4) ∨ (¬ Good l ∧ Pos l ∧ (6 < l.length ∨ 65536 < prod l) ∧ CountIs l 0 6) := by
  by_cases h1 : Pos l
  · by_cases h2 : l.length ≤ 6
    · by_cases h3 : prod l ≤ 65536
      · exact .inl ⟨⟨h1, h2, h3⟩, countIs_good ⟨h1, h2, h3⟩⟩
      · exact .inr (.inr ⟨fun h => h3 h.2.2, h1, .inr (by omega), countIs_6 h1 (.inr (by omega))⟩)
    · exact .inr (.inr ⟨fun h => h2 h.2.1, h1, .inl (by omega), countIs_6 h1 (.inl (by omega))⟩)
  · exact .inr (.inl ⟨fun h => h1 h.1, h1, countIs_4 h1⟩)
theorem good_drop {l : List Int} (h : Good l) (k : Nat) : Good (l.drop k) :=
  ⟨pos_drop h.1 k, by have := h.2.1; simp; omega, by have := prod_drop_le h.1 k; have := h.2.2; omega⟩

/-! ### Strides -/
def st : List Int → List Int
  | [] => []
  | _ :: r => prod r :: st r
theorem st_length (l : List Int) : (st l).length = l.length := by
  induction l with
  | nil => rfl
  | cons d r ih => simp [st, ih]
theorem st_ix (l : List Int) (k : Nat) (h : k < l.length) : ix (st l) k = prod (l.drop (k + 1)) := by
  induction l generalizing k with
  | nil => simp at h
  | cons d r ih =>
    cases k with
    | zero => simp [st, ix_zero]
    | succ k => simp only [st, ix_succ]; rw [ih k (by simpa using h)]; simp
theorem st_drop (l : List Int) (k : Nat) : st (l.drop k) = (st l).drop k := by
  induction l generalizing k with
  | nil => simp [st]
  | cons d r ih =>
    cases k with
    | zero => simp
    | succ k => simp [st, ih]
def zeros (n : Nat) : List Int := List.replicate n 0
theorem zeros_length (n : Nat) : (zeros n).length = n := by simp [zeros]
theorem zeros_succ (n : Nat) : zeros (n + 1) = zeros n ++ [0] := by simp [zeros, List.replicate_succ']
theorem zeros_cons (n : Nat) : zeros (n + 1) = 0 :: zeros n := by simp [zeros, List.replicate_succ]
/-- From the back: the row after k rounds. -/
def stBack (l : List Int) (k : Nat) : List Int := zeros (l.length - k) ++ (st l).drop (l.length - k)
theorem stBack_length (l : List Int) (k : Nat) (h : k ≤ l.length) : (stBack l k).length = l.length := by
  simp [stBack, zeros_length, st_length]
theorem stBack_zero (l : List Int) : stBack l 0 = zeros l.length := by
  simp [stBack, st_length]
theorem stBack_all (l : List Int) : stBack l l.length = st l := by simp [stBack, zeros]
theorem set_mid (a b : List Int) (x y : Int) (k : Nat) (h : k = a.length) : (a ++ x :: b).set k y = a ++ y :: b := by
  subst h; simp
theorem stBack_succ (l : List Int) (k : Nat) (h : k < l.length) : (stBack l k).set (l.length - 1 - k) (prod (l.drop (l.length - k))) = stBack l (k + 1) := by
  unfold stBack
  have e : l.length - k = (l.length - 1 - k) + 1 := by omega
  have e2 : l.length - (k + 1) = l.length - 1 - k := by omega
  rw [e2, e, zeros_succ, List.append_assoc]
  rw [show [(0 : Int)] ++ (st l).drop (l.length - 1 - k + 1) = 0 :: (st l).drop (l.length - 1 - k + 1) from rfl]
  rw [set_mid _ _ _ _ _ (zeros_length _).symm]
  rw [drop_ix (st l) (l.length - 1 - k) (by rw [st_length]; omega), st_ix l _ (by omega)]
/-- From the front: the row after k rounds. -/
def stFore (l : List Int) (k : Nat) : List Int := (st l).take k ++ zeros (l.length - k)
theorem stFore_length (l : List Int) (k : Nat) (h : k ≤ l.length) : (stFore l k).length = l.length := by
  simp [stFore, zeros_length, st_length]; omega
theorem stFore_zero (l : List Int) : stFore l 0 = zeros l.length := by simp [stFore]
theorem stFore_all (l : List Int) : stFore l l.length = st l := by
  simp [stFore, zeros]; rw [List.take_of_length_le (by rw [st_length]; omega)]
theorem fore_succ (s : List Int) (n k : Nat) (hs : s.length = n) (h : k < n) (y : Int) (hy : y = ix s k) : (s.take k ++ zeros (n - k)).set k y = s.take (k + 1) ++ zeros (n - (k + 1)) := by
  have e : n - k = (n - (k + 1)) + 1 := by omega
  rw [e, zeros_cons, set_mid _ _ _ _ _ (by simp; omega), take_ix s k (by omega), hy]; simp
theorem stFore_succ (l : List Int) (k : Nat) (h : k < l.length) : (stFore l k).set k (prod (l.drop (k + 1))) = stFore l (k + 1) :=
  fore_succ (st l) l.length k (st_length l) h _ (st_ix l k h).symm

/-! ### Offset -/
def off : List Int → List Int → Int
  | _ :: ds, c :: cs => c * prod ds + off ds cs
  | _, _ => 0
def Within (l a : List Int) : Prop := ∀ j, j < l.length → 0 ≤ ix a j ∧ ix a j < ix l j
/-- The program's partial sum. -/
def offTo (l a : List Int) : Nat → Int
  | 0 => 0
  | k + 1 => offTo l a k + ix a k * prod (l.drop (k + 1))
/-- The reference's partial number. -/
def horner (l a : List Int) : Nat → Int
  | 0 => 0
  | k + 1 => horner l a k * ix l k + ix a k
theorem horner_eq (l a : List Int) (k : Nat) (h : k ≤ l.length) : horner l a k * prod (l.drop k) = offTo l a k := by
  induction k with
  | zero => simp [horner, offTo]
  | succ k ih =>
    simp only [horner, offTo]
    rw [← ih (by omega), prod_drop_succ l k (by omega), Int.add_mul, Int.mul_assoc]
theorem horner_all (l a : List Int) : horner l a l.length = offTo l a l.length := by
  have := horner_eq l a l.length (Nat.le_refl _)
  simpa [prod] using this
theorem horner_bd (l a : List Int) (k : Nat) (hk : k ≤ l.length) (hw : ∀ j, j < k → 0 ≤ ix a j ∧ ix a j < ix l j) : 0 ≤ horner l a k ∧ horner l a k < prod (l.take k) := by
  induction k with
  | zero => simp [horner, prod]
  | succ k ih =>
    obtain ⟨h1, h2⟩ := ih (by omega) (fun j hj => hw j (by omega))
    obtain ⟨h3, h4⟩ := hw k (by omega)
    have h5 : horner l a k * ix l k + ix a k < (horner l a k + 1) * ix l k := by rw [Int.add_mul]; omega
    have h6 : (horner l a k + 1) * ix l k ≤ prod (l.take k) * ix l k := Int.mul_le_mul_of_nonneg_right (by omega) (by omega)
    have h7 : 0 ≤ horner l a k * ix l k := Int.mul_nonneg h1 (by omega)
    rw [prod_take_succ l k (by omega)]
    simp only [horner]
    omega
theorem offTo_bd (l a : List Int) (k : Nat) (hk : k ≤ l.length) (hp : Pos l) (hw : ∀ j, j < k → 0 ≤ ix a j ∧ ix a j < ix l j) : 0 ≤ offTo l a k ∧ offTo l a k < prod l := by
  obtain ⟨h1, h2⟩ := horner_bd l a k hk hw
  have hd := prod_pos (pos_drop hp k)
  have e := prod_append (l.take k) (l.drop k)
  rw [List.take_append_drop] at e
  rw [← horner_eq l a k hk, e]
  exact ⟨Int.mul_nonneg h1 (by omega), Int.mul_lt_mul_of_pos_right h2 (by omega)⟩

/-! ### Coords -/
theorem emod_le_self {a b : Int} (ha : 0 ≤ a) (hb : 1 ≤ b) : a % b ≤ a := by
  have h := Int.emod_def a b
  have h2 : 0 ≤ b * (a / b) := Int.mul_nonneg (by omega) (Int.ediv_nonneg ha (by omega))
  omega
def coAt (l : List Int) (n : Int) (j : Nat) : Int := (n % prod (l.drop j)) / prod (l.drop (j + 1))
def co (l : List Int) (n : Int) : List Int := (List.range l.length).map (coAt l n)
theorem co_length (l : List Int) (n : Int) : (co l n).length = l.length := by simp [co]
theorem co_ix (l : List Int) (n : Int) (j : Nat) (h : j < l.length) : ix (co l n) j = coAt l n j := by
  rw [ix_get _ j (by rw [co_length]; exact h)]; simp [co]
/-- The program: what is left after k rounds. -/
theorem mod_mod_prod (l : List Int) (n : Int) (k : Nat) (h : k < l.length) : (n % prod (l.drop k)) % prod (l.drop (k + 1)) = n % prod (l.drop (k + 1)) := by
  rw [prod_drop_succ l k h]
  exact Int.emod_emod_of_dvd n ⟨ix l k, by rw [Int.mul_comm]⟩
theorem coAt_alt (l : List Int) (n : Int) (k : Nat) (h : k < l.length) (hp : Pos l) : coAt l n k = (n / prod (l.drop (k + 1))) % ix l k := by
  unfold coAt
  rw [prod_drop_succ l k h]
  have hq := prod_pos (pos_drop hp (k + 1))
  generalize prod (l.drop (k + 1)) = q at *
  have hd := pos_ix hp k h
  generalize ix l k = d at *
  rw [Int.mul_comm d q]
  rw [Int.emod_def n (q * d), Int.emod_def (n / q) d, Int.ediv_ediv_of_nonneg (by omega)]
  rw [Int.sub_eq_add_neg, ← Int.mul_neg, Int.mul_assoc, Int.add_mul_ediv_left _ _ (by omega), Int.mul_neg, Int.sub_eq_add_neg]
theorem coAt_bd (l : List Int) (n : Int) (k : Nat) (h : k < l.length) (hp : Pos l) : 0 ≤ coAt l n k ∧ coAt l n k < ix l k := by
  rw [coAt_alt l n k h hp]
  have hd := pos_ix hp k h
  exact ⟨Int.emod_nonneg _ (by omega), Int.emod_lt_of_pos _ (by omega)⟩
theorem co_within (l : List Int) (n : Int) (hp : Pos l) : Within l (co l n) := fun j hj => by rw [co_ix l n j hj]; exact coAt_bd l n j hj hp
/-- Sum of what has been taken, and what is left. -/
theorem offTo_co (l : List Int) (n : Int) (h0 : 0 ≤ n) (hn : n < prod l) (k : Nat) (hk : k ≤ l.length) : offTo l (co l n) k = n - n % prod (l.drop k) := by
  induction k with
  | zero => simp only [offTo, List.drop_zero]; rw [Int.emod_eq_of_lt h0 hn]; omega
  | succ k ih =>
    simp only [offTo]
    rw [ih (by omega), co_ix l n k (by omega), coAt]
    have e := Int.emod_def (n % prod (l.drop k)) (prod (l.drop (k + 1)))
    rw [mod_mod_prod l n k (by omega)] at e
    rw [Int.mul_comm (n % prod (l.drop k) / prod (l.drop (k + 1)))]
    omega
theorem offTo_co_all (l : List Int) (n : Int) (h0 : 0 ≤ n) (hn : n < prod l) : offTo l (co l n) l.length = n := by
  rw [offTo_co l n h0 hn l.length (Nat.le_refl _)]
  simp [prod, Int.emod_one]
/-- The rows after k rounds: from the front, from the back. -/
def coFore (l : List Int) (n : Int) (k : Nat) : List Int := (co l n).take k ++ zeros (l.length - k)
theorem coFore_length (l : List Int) (n : Int) (k : Nat) (h : k ≤ l.length) : (coFore l n k).length = l.length := by
  simp [coFore, zeros_length, co_length]; omega
theorem coFore_succ (l : List Int) (n : Int) (k : Nat) (h : k < l.length) : (coFore l n k).set k (coAt l n k) = coFore l n (k + 1) :=
  fore_succ (co l n) l.length k (co_length l n) h _ (co_ix l n k h).symm
theorem coFore_zero (l : List Int) (n : Int) : coFore l n 0 = zeros l.length := by simp [coFore]
theorem coFore_all (l : List Int) (n : Int) : coFore l n l.length = co l n := by
  simp [coFore, zeros]; rw [List.take_of_length_le (by rw [co_length]; omega)]
def coBack (l : List Int) (n : Int) (k : Nat) : List Int := zeros k ++ (co l n).drop k
theorem coBack_length (l : List Int) (n : Int) (k : Nat) (h : k ≤ l.length) : (coBack l n k).length = l.length := by
  simp [coBack, zeros_length, co_length]; omega
theorem coBack_all (l : List Int) (n : Int) : coBack l n l.length = zeros l.length := by simp [coBack, co_length]
theorem coBack_zero (l : List Int) (n : Int) : coBack l n 0 = co l n := by simp [coBack, zeros]
theorem coBack_succ (l : List Int) (n : Int) (k : Nat) (h : k < l.length) : (coBack l n (k + 1)).set k (coAt l n k) = coBack l n k := by
  unfold coBack
  rw [zeros_succ, List.append_assoc]
  rw [show [(0 : Int)] ++ (co l n).drop (k + 1) = 0 :: (co l n).drop (k + 1) from rfl]
  rw [set_mid _ _ _ _ _ (zeros_length _).symm, drop_ix (co l n) k (by rw [co_length]; exact h), co_ix l n k h]
/-- What is left to the reference at place k from the front: n over the product behind. -/
theorem left_step (l : List Int) (n : Int) (k : Nat) (h : k < l.length) (hp : Pos l) : n / prod (l.drop (k + 1)) / ix l k = n / prod (l.drop k) := by
  rw [prod_drop_succ l k h, Int.mul_comm, Int.ediv_ediv_of_nonneg (by have := prod_pos (pos_drop hp (k + 1)); omega)]

end Go.Proofs.Ytanghkleojjplaa
