/- Plain laws on spreading: two lists of dimensions spread to one. -/
import Derived.Test.YtanghkleojjplaaPlain
namespace Go.Proofs.Ytanghkleojjplaa

/-- The dimension at a place from the back; 1 where there is none. -/
def bk (l : List Int) (i : Nat) : Int := if i < l.length then ix l (l.length - 1 - i) else 1
def Fits (a b : List Int) : Prop := ∀ i, bk a i = bk b i ∨ bk a i = 1 ∨ bk b i = 1
def bc (a b : List Int) : List Int := (List.range (max a.length b.length)).map fun j => max (bk a (max a.length b.length - 1 - j)) (bk b (max a.length b.length - 1 - j))

theorem bk_pos {l : List Int} (h : Pos l) (i : Nat) : 1 ≤ bk l i := by
  unfold bk; split
  · next hi => exact pos_ix h _ (by omega)
  · omega
theorem bk_out (l : List Int) (i : Nat) (h : l.length ≤ i) : bk l i = 1 := by unfold bk; rw [if_neg (by omega)]
theorem bk_in (l : List Int) (i : Nat) (h : i < l.length) : bk l i = ix l (l.length - 1 - i) := by unfold bk; rw [if_pos h]
theorem ix_bk (l : List Int) (j : Nat) (h : j < l.length) : ix l j = bk l (l.length - 1 - j) := by
  rw [bk_in l _ (by omega)]; congr 1; omega
theorem bc_length (a b : List Int) : (bc a b).length = max a.length b.length := by simp [bc]
theorem bc_ix (a b : List Int) (j : Nat) (h : j < max a.length b.length) : ix (bc a b) j = max (bk a (max a.length b.length - 1 - j)) (bk b (max a.length b.length - 1 - j)) := by
  rw [ix_get _ j (by rw [bc_length]; exact h)]; simp [bc]
theorem bc_bk (a b : List Int) (i : Nat) : bk (bc a b) i = max (bk a i) (bk b i) := by
  by_cases h : i < max a.length b.length
  · rw [bk_in _ i (by rw [bc_length]; exact h), bc_length, bc_ix a b _ (by omega)]
    rw [show max a.length b.length - 1 - (max a.length b.length - 1 - i) = i by omega]
  · rw [bk_out _ i (by rw [bc_length]; omega), bk_out a i (by omega), bk_out b i (by omega)]; rfl
theorem ext_bk {a b : List Int} (hl : a.length = b.length) (h : ∀ i, bk a i = bk b i) : a = b :=
  ext_ix hl fun j hj => by rw [ix_bk a j hj, ix_bk b j (by omega), h, hl]
theorem bc_comm (a b : List Int) : bc a b = bc b a :=
  ext_bk (by rw [bc_length, bc_length]; omega) fun i => by rw [bc_bk, bc_bk]; omega
theorem fits_comm {a b : List Int} (h : Fits a b) : Fits b a := fun i => by have := h i; omega
theorem bc_self (a b : List Int) : bc a (bc a b) = bc a b :=
  ext_bk (by rw [bc_length, bc_length]; omega) fun i => by rw [bc_bk, bc_bk]; omega
theorem fits_self {a b : List Int} (ha : Pos a) (h : Fits a b) : Fits a (bc a b) := fun i => by
  have h1 := h i; have h2 := bk_pos ha i; rw [bc_bk]; omega
theorem bc_assoc (a b c : List Int) : bc (bc a b) c = bc a (bc b c) :=
  ext_bk (by simp only [bc_length]; omega) fun i => by simp only [bc_bk]; omega
theorem fits_assoc {a b c : List Int} (ha : Pos a) (hb : Pos b) (hc : Pos c) (h1 : Fits a b) (h2 : Fits (bc a b) c) (h3 : Fits b c) : Fits a (bc b c) := fun i => by
  have e1 := h1 i; have e2 := h2 i; have e3 := h3 i
  have p1 := bk_pos ha i; have p2 := bk_pos hb i; have p3 := bk_pos hc i
  rw [bc_bk] at e2 ⊢; omega
theorem bc_pos {a b : List Int} (ha : Pos a) : Pos (bc a b) := pos_of_ix fun j hj => by
  rw [bc_length] at hj
  rw [bc_ix a b j hj]
  have := bk_pos ha (max a.length b.length - 1 - j)
  omega
/-- Against the longer one. -/
theorem bc_long (p q : List Int) (h : q.length ≤ p.length) (hp : Pos p) (j : Nat) (hj : j < p.length) :
    ix (bc p q) j = if j < p.length - q.length then ix p j else max (ix p j) (ix q (j - (p.length - q.length))) := by
  have e : max p.length q.length = p.length := by omega
  rw [bc_ix p q j (by omega), e, ← ix_bk p j hj]
  split
  · next hs => rw [bk_out q _ (by omega)]; have := pos_ix hp j hj; omega
  · next hs => rw [bk_in q _ (by omega)]; congr 2; omega
/-- The row after k rounds of the program. -/
def outTo (p q : List Int) (k : Nat) : List Int := (bc p q).take (p.length - q.length + k) ++ p.drop (p.length - q.length + k)
theorem outTo_length (p q : List Int) (h : q.length ≤ p.length) (k : Nat) (hk : k ≤ q.length) : (outTo p q k).length = p.length := by
  simp only [outTo, List.length_append, List.length_take, List.length_drop, bc_length]; omega
theorem outTo_ix_new (p q : List Int) (h : q.length ≤ p.length) (k : Nat) (hk : k < q.length) : ix (outTo p q k) (p.length - q.length + k) = ix p (p.length - q.length + k) := by
  unfold outTo
  have e : p.length - q.length + k = ((bc p q).take (p.length - q.length + k)).length + 0 := by rw [List.length_take, bc_length]; omega
  conv => lhs; arg 2; rw [e]
  rw [ix_append_right, ix_drop, Nat.add_zero]
theorem outTo_zero (p q : List Int) (h : q.length ≤ p.length) (hp : Pos p) : outTo p q 0 = p := by
  refine ext_ix (outTo_length p q h 0 (by omega)) fun j hj => ?_
  rw [outTo_length p q h 0 (by omega)] at hj
  unfold outTo
  by_cases hs : j < p.length - q.length
  · rw [ix_append_left _ _ j (by rw [List.length_take, bc_length]; omega), ix_take _ _ j (by omega), bc_long p q h hp j hj, if_pos hs]
  · have e : j = ((bc p q).take (p.length - q.length + 0)).length + (j - (p.length - q.length)) := by rw [List.length_take, bc_length]; omega
    conv => lhs; arg 2; rw [e]
    rw [ix_append_right, ix_drop]; congr 1; omega
theorem outTo_all (p q : List Int) (h : q.length ≤ p.length) : outTo p q q.length = bc p q := by
  unfold outTo
  rw [show p.length - q.length + q.length = p.length by omega, List.drop_length, List.append_nil, List.take_of_length_le (by rw [bc_length]; omega)]
theorem outTo_succ (p q : List Int) (h : q.length ≤ p.length) (hp : Pos p) (k : Nat) (hk : k < q.length) (x : Int) (hx : x = max (ix p (p.length - q.length + k)) (ix q k)) :
    (outTo p q k).set (p.length - q.length + k) x = outTo p q (k + 1) := by
  unfold outTo
  have hb := bc_long p q h hp (p.length - q.length + k) (by omega)
  rw [if_neg (by omega), show p.length - q.length + k - (p.length - q.length) = k by omega] at hb
  rw [drop_ix p (p.length - q.length + k) (by omega), set_mid _ _ _ _ _ (by rw [List.length_take, bc_length]; omega)]
  rw [show p.length - q.length + (k + 1) = p.length - q.length + k + 1 by omega, take_ix (bc p q) _ (by rw [bc_length]; omega), hb, hx]
  simp
theorem outTo_same (p q : List Int) (h : q.length ≤ p.length) (hp : Pos p) (k : Nat) (hk : k < q.length) (hx : ix q k = 1 ∨ ix q k = ix p (p.length - q.length + k)) : outTo p q k = outTo p q (k + 1) := by
  have h1 := pos_ix hp (p.length - q.length + k) (by omega)
  rw [← outTo_succ p q h hp k hk (ix p (p.length - q.length + k)) (by omega)]
  apply ext_ix (by rw [List.length_set])
  intro j hj
  by_cases e : j = p.length - q.length + k
  · subst e
    rw [ix_get (List.set _ _ _) _ (by rw [List.length_set]; exact hj), List.getElem_set_self, outTo_ix_new p q h k hk]
  · rw [ix_get (List.set _ _ _) _ (by rw [List.length_set]; exact hj), List.getElem_set_ne (by omega), ix_get _ _ hj]
theorem fits_long (p q : List Int) (h : q.length ≤ p.length) : Fits p q ↔ ∀ k, k < q.length → ix p (p.length - q.length + k) = ix q k ∨ ix p (p.length - q.length + k) = 1 ∨ ix q k = 1 := by
  constructor
  · intro hf k hk
    have := hf (q.length - 1 - k)
    rw [bk_in p _ (by omega), bk_in q _ (by omega), show p.length - 1 - (q.length - 1 - k) = p.length - q.length + k by omega, show q.length - 1 - (q.length - 1 - k) = k by omega] at this
    exact this
  · intro hf i
    by_cases hi : i < q.length
    · rw [bk_in p _ (by omega), bk_in q _ hi]
      have := hf (q.length - 1 - i) (by omega)
      rw [show p.length - q.length + (q.length - 1 - i) = p.length - 1 - i by omega] at this
      exact this
    · exact .inr (.inr (bk_out q i (by omega)))
/-- The row after k rounds of the reference, from the back. -/
def bcBack (a b : List Int) (k : Nat) : List Int := zeros (max a.length b.length - k) ++ (bc a b).drop (max a.length b.length - k)
theorem bcBack_length (a b : List Int) (k : Nat) (h : k ≤ max a.length b.length) : (bcBack a b k).length = max a.length b.length := by
  simp only [bcBack, List.length_append, zeros_length, List.length_drop, bc_length]; omega
theorem bcBack_zero (a b : List Int) : bcBack a b 0 = zeros (max a.length b.length) := by
  simp only [bcBack, Nat.sub_zero]; rw [List.drop_of_length_le (by rw [bc_length]; omega), List.append_nil]
theorem bcBack_all (a b : List Int) : bcBack a b (max a.length b.length) = bc a b := by simp [bcBack, zeros]
theorem bcBack_succ (a b : List Int) (k : Nat) (h : k < max a.length b.length) : (bcBack a b k).set (max a.length b.length - 1 - k) (max (bk a k) (bk b k)) = bcBack a b (k + 1) := by
  unfold bcBack
  have e : max a.length b.length - k = (max a.length b.length - 1 - k) + 1 := by omega
  have e2 : max a.length b.length - (k + 1) = max a.length b.length - 1 - k := by omega
  rw [e2, e, zeros_succ, List.append_assoc]
  rw [show [(0 : Int)] ++ (bc a b).drop (max a.length b.length - 1 - k + 1) = 0 :: (bc a b).drop (max a.length b.length - 1 - k + 1) from rfl]
  rw [set_mid _ _ _ _ _ (zeros_length _).symm]
  rw [drop_ix (bc a b) (max a.length b.length - 1 - k) (by rw [bc_length]; omega), bc_ix a b _ (by omega)]
  rw [show max a.length b.length - 1 - (max a.length b.length - 1 - k) = k by omega]
end Go.Proofs.Ytanghkleojjplaa
