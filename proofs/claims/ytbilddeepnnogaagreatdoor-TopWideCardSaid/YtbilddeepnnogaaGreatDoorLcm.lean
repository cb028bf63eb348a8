import Derived.Test.YtbilddeepnnogaaGreatDoorFem
import Derived.Shelf.SlicesQ.Reverse
set_option linter.unusedVariables false
set_option linter.unusedSimpArgs false
/- The library's functions: a list of nodes turned round; nothing struck out of nothing. -/
section
set_option linter.unusedVariables false
set_option maxRecDepth 100000
namespace Go.Proofs.YtbilddeepnnogaaGreatDoor
open Go.RowKit Go.Shelf Go.Sort

def renR (f t e : Nat) : Ren := ⟨fun x => match x with | 35 => f | n => n, fun x => match x with | 22 => t | 23 => e | n => n, fun n => n⟩
set_option maxRecDepth 100000 in
theorem lay115 : SlLaysE0.n35 Tryz.prog (renR 115 30 37) := by
  constructor
  case f35 => exact ⟨Tryz.f115.name, by kernel_rfl, by kernel_rfl⟩
  all_goals first | kernel_rfl | exact fun _ => by kernel_rfl

/-- Row i, where there is one. -/
def rowAt (rows : List (List Value)) (i : Nat) : List Value := match rows[i]? with
  | some r => if r.length = 5 ∧ ∀ v ∈ r, v.oneCell' = true then r else [.bool false, .bool false, .bool false, .bool false, .bool false]
  | none => [.bool false, .bool false, .bool false, .bool false, .bool false]
theorem rowAt_len (rows : List (List Value)) (i : Nat) : (rowAt rows i).length = 5 := by
  unfold rowAt
  split
  · split
    · rename_i h; exact h.1
    · rfl
  · rfl
theorem rowAt_one (rows : List (List Value)) (i : Nat) : ∀ v ∈ rowAt rows i, v.oneCell' = true := by
  unfold rowAt
  split
  · split
    · rename_i h; exact h.2
    · intro v hv; simp at hv; subst hv; rfl
  · intro v hv; simp at hv; subst hv; rfl
theorem putRow_only (enc : Value → Value) (w : World) (n b off : Nat) (d : Array Value) : Only b w (putRow enc (Sort.ahead w n) b off d) :=
  ⟨rfl, rfl, rfl, by simp [putRow, mapBlock, Sort.ahead], fun k hk hb => by
    show ((w.heap.modify b _))[k]? = _
    rw [Array.getElem?_modify, if_neg (fun e => hb e.symm)]⟩
theorem reverse_own {w : World} {B : Nat} {Z : Nat → Prop} {v : Value} {rows : List (List Value)} (h : OwnL (repRaw 5) 37 w B Z v rows) (hl : 0 < rows.length) (hs : rows.length ≤ 1000) :
    ∃ b c, v = .slice (some ⟨b, 0, none⟩) rows.length c ∧ B ≤ b ∧ b < w.heap.size ∧ ∀ w1 : World, Since w w1 → Calls Tryz.prog 115 #[v] w1 (fun e w' => e = .returned (.tuple #[]) ∧ Only b w1 w' ∧ ∀ j cs, rows.reverse[j]? = some cs → ∀ i, i < 5 → w'.cell? ⟨b, j * 5 + i, none⟩ = cs[i]?) := by
  obtain ⟨xs, hx, hr⟩ := h.own
  have hlt := h.lt
  rcases hx.2 with ⟨h1, h2⟩ | ⟨g, cap, cur, h1, hg, hh, _⟩
  · omega
  subst h1
  have hraw := h.raw (by decide) hl
  obtain ⟨b, c, e, hB, hb, hc⟩ := hraw
  cases e
  refine ⟨g, cap, rfl, hg, hb, fun w1 hw1 => ?_⟩
  have hrow : ∀ j cs, rows[j]? = some cs → rowAt rows j = cs := by
    intro j cs hj
    obtain ⟨cs', ⟨rfl, h5, h6⟩, _⟩ := hr j cs hj
    unfold rowAt
    rw [hj]
    simp only
    rw [if_pos ⟨h5, h6⟩]
  have hH : HoldsK (rowAt rows) 5 w1 g 0 (Array.range rows.length) := by
    intro t ht
    rw [size_flatK, Array.size_range] at ht
    rw [get_flatK _ _ _ _ (by rw [Array.size_range]; exact ht)]
    have hj : t / 5 < rows.length := by omega
    have he : (Array.range rows.length)[t / 5]! = t / 5 := by rw [getElem!_pos _ _ (by simpa using hj)]; simp
    rw [he, hrow _ _ (List.getElem?_eq_getElem hj)]
    have h5 := rowAt_len rows (t / 5)
    rw [hrow _ _ (List.getElem?_eq_getElem hj)] at h5
    have hcc := hc (t / 5) _ (List.getElem?_eq_getElem hj) (t % 5) (by omega)
    rw [show t / 5 * 5 + t % 5 = t by omega] at hcc
    rw [Nat.zero_add]
    have hg1 := hw1.kp hh
    refine ⟨?_, frozen_row hg1 t⟩
    rw [getElem!_pos _ _ (by rw [h5]; omega)]
    rw [(hw1.cell (p := ⟨g, t, none⟩) hb).trans hcc, List.getElem?_eq_getElem]
    rfl
  have hsz : (Array.range rows.length).size = rows.length := Array.size_range
  have hC := AnyQ.slices_Reverse lay115 5 (fun w => by kernel_rfl) (fun w => by kernel_rfl) (rowAt rows) (rowAt_len rows) (rowAt_one rows) g 0 cap (Array.range rows.length) w1 hH (by rw [hsz]; omega)
  rw [hsz] at hC
  refine hC.mono ?_
  rintro e w' ⟨rfl, n, rfl⟩
  refine ⟨rfl, putRow_only _ _ _ _ _ _, fun j cs hj i hi => ?_⟩
  have hH' := holdsK_putRowK (rowAt rows) 5 (Sort.ahead w1 n) g 0 (Array.range rows.length) (Array.range rows.length).reverse (holdsK_ahead (rowAt rows) 5 w1 n g 0 _ hH) (by simp)
  have hjl : j < rows.length := by have := (List.getElem?_eq_some_iff.1 hj).1; simpa using this
  have q := (hH'.cell (i := j) (c := i) (by simpa using hjl) hi).1
  rw [Nat.zero_add] at q
  rw [q]
  have he : (Array.range rows.length).reverse[j]! = rows.length - 1 - j := by rw [getElem!_pos _ _ (by simpa using hjl)]; simp
  rw [he]
  rw [List.getElem?_reverse hjl] at hj
  rw [hrow _ _ hj]
  have h5 := rowAt_len rows (rows.length - 1 - j)
  rw [hrow _ _ hj] at h5
  rw [getElem!_pos _ _ (by rw [h5]; exact hi), List.getElem?_eq_getElem (by rw [h5]; exact hi)]
/-- Cells of the same rows are the same nodes. -/
theorem NdRaw.same {w wf : World} {A : Option Addr} {l : List Op1} {rows : List (List Value)} {b : Nat} (h : NdRaw w A l rows) (hx : ∀ A m, Xs w A m → Xs wf A m) (h2 : b < wf.heap.size) (h3 : ∀ j cs, rows[j]? = some cs → ∀ i, i < 5 → wf.cell? ⟨b, j * 5 + i, none⟩ = cs[i]?) : NdAt wf (some ⟨b, 0, none⟩) l := by
  refine ⟨b, 0, rfl, h2, fun j o hj => ?_⟩
  obtain ⟨b0, off, -, -, hr⟩ := h.at_
  have hj' : j < rows.length := by rw [h.len]; exact (List.getElem?_eq_some_iff.1 hj).1
  obtain ⟨o', nm, A', c', e1, e2, q5, -⟩ := hr j _ (List.getElem?_eq_getElem hj')
  rw [hj] at e1
  cases e1
  have ce := h3 j _ (List.getElem?_eq_getElem hj')
  rw [e2] at ce
  exact ⟨nm, A', c', by simp, by simp, by simp, by simp, by simp, hx _ _ q5⟩
set_option maxHeartbeats 1000000 in
theorem ixf_nil (f : Value) (w : World) : Calls Tryz.prog 193 #[.slice none 0 0, f] w (fun e w' => e = .returned (.int .i64 (-1)) ∧ w' = w) := by
  go_enter Tryz.func193, Tryz.ntmps193
  go_wp2
  go_loopg [8] 0 (fun g i wr => i = .int .i64 0 ∧ wr = w)
  case atStart => exact ⟨rfl, rfl⟩
  case round =>
    obtain ⟨rfl, rfl⟩ := hrel
    go_wp2
    go_ret
    exact ⟨rfl, rfl⟩
set_option maxHeartbeats 1000000 in
/-- slices.DeleteFunc of nothing. -/
theorem delf_nil (f : Value) (w : World) : Calls Tryz.prog 116 #[.slice none 0 0, f] w (fun e w' => e = .returned (.slice none 0 0) ∧ w' = w) := by
  go_enter Tryz.func116, Tryz.ntmps116
  go_wp2_with fail
  refine (ixf_nil _ _).mono ?_
  rintro e w' ⟨rfl, rfl⟩
  go_wp2
  go_ret
  exact ⟨rfl, rfl⟩
end Go.Proofs.YtbilddeepnnogaaGreatDoor
end
/- Passes: what nobody needs (nothing, where all is put out). -/
section
set_option linter.unusedVariables false
set_option maxRecDepth 100000
namespace Go.Proofs.YtbilddeepnnogaaGreatDoor
open Go.RowKit Go.Shelf

/-- The graph's block, and the counts: a map, a cell that holds it. -/
structure DeSt (w2 wr : World) (o : Obj) (M : Nat) (f : ByteArray → Option Value) (n : Nat) : Prop where
  since : Since w2 wr
  h : wr.heap[w2.heap.size]? = some o
  cell : wr.heap[M + 1]? = some (.cells #[.map (some M)] 142 (0, 0))
  map : MapIs wr M f n
  gt : w2.heap.size < M
  size : M + 2 ≤ wr.heap.size
theorem DeSt.later {w2 wr w' : World} {o : Obj} {M n : Nat} {f : ByteArray → Option Value} (h : DeSt w2 wr o M f n) (hb : Since wr w') : DeSt w2 w' o M f n :=
  ⟨h.since.trans hb, hb.kp h.h, hb.kp h.cell, h.map.below hb, h.gt, Nat.le_trans h.size hb.size⟩
theorem DeSt.put {w2 wr w' : World} {o : Obj} {M n n' : Nat} {f f' : ByteArray → Option Value} (h : DeSt w2 wr o M f n) (hm : MapIs w' M f' n') (hg : wr.grownBy w' (some M)) : DeSt w2 w' o M f' n' := by
  have ho := grown_only hg
  have hs := h.size
  have hgt := h.gt
  exact ⟨Below.trans h.since (ho.below (by omega) (by omega)), (ho.block _ (by omega) (by omega)).trans h.h, (ho.block _ (by omega) (by omega)).trans h.cell, hm, h.gt, Nat.le_trans h.size ho.size⟩
/-- The same while the nodes come, the last one first; a: how often x was counted, at most. -/
def DqSt (w2 wr : World) (o : Obj) (M : Nat) (l : List Op1) (rows : List (List Value)) (a k : Nat) (v : Value) : Prop :=
  ∃ f n c, DeSt w2 wr o M f n ∧ (∀ (j : Nat) (p : Op1), l[j]? = some p → f p.out = some (.int .i64 1)) ∧ (f ⟨#[120]⟩).getD (.int .i64 0) = .int .i64 c ∧ 0 ≤ c ∧ c ≤ a ∧ n ≤ l.length + a ∧ OwnL (repRaw 5) 37 wr (M + 2) (fun _ => False) v (rows.reverse.take k)
theorem DqSt.later {w2 wr w' : World} {o : Obj} {M a k : Nat} {l : List Op1} {rows : List (List Value)} {v : Value} (h : DqSt w2 wr o M l rows a k v) (hb : Since wr w') : DqSt w2 w' o M l rows a k v := by
  obtain ⟨f, n, c, h1, h2, h3, h4, h5, h6, h7⟩ := h
  exact ⟨f, n, c, h1.later hb, h2, h3, h4, h5, h6, h7.keep (fun j hj => hb.block j (h7.lt j hj).2) (fun _ h => h.elim) (fun _ h => h)⟩
/-- x once more. -/
theorem DqSt.count {w2 wr : World} {o : Obj} {M a k : Nat} {l : List Op1} {rows : List (List Value)} {v : Value} (hok : FlatL l) (h : DqSt w2 wr o M l rows a k v) (ha : a ≤ 100) : ∃ c w', 0 ≤ c ∧ c ≤ 100 ∧ (Instr.lookup 142 (.map (some M)) (.string ⟨#[120]⟩) false).run Tryz.prog wr = .ok (.int .i64 c) wr ∧ (Instr.mapUpdate 142 (.map (some M)) (.string ⟨#[120]⟩) (.int .i64 (c + 1))).run Tryz.prog wr = .ok () w' ∧ DqSt w2 w' o M l rows (a + 1) k v ∧ Only M wr w' := by
  obtain ⟨f, n, c, h1, h2, h3, h4, h5, h6, h7⟩ := h
  have hl := h1.map.look (s := ⟨#[120]⟩) Tryz.und142 (zero3 _) (by decide)
  rw [h3] at hl
  have hmost := hok.most
  obtain ⟨w', hp, hm, hg⟩ := h1.map.put Tryz.und142 (s := ⟨#[120]⟩) (by decide) (by omega) (.int .i64 (c + 1))
  have ho := grown_only hg
  refine ⟨c, w', h4, by omega, hl, hp, ⟨upd f ⟨#[120]⟩ (.int .i64 (c + 1)), _, c + 1, h1.put hm hg, fun j p hj => ?_, by simp [upd], by omega, by omega, by split <;> omega, h7.keep (fun j hj => ho.block j (h7.lt j hj).2 (by have := (h7.lt j hj).1; omega)) (fun _ h => h.elim) (fun _ h => h)⟩, ho⟩
  simp only [upd]
  rw [if_neg (out_ne_x hok hj)]
  exact h2 j p hj
theorem DqSt.cellM {w2 wr : World} {o : Obj} {M a k : Nat} {l : List Op1} {rows : List (List Value)} {v : Value} (h : DqSt w2 wr o M l rows a k v) : wr.cell? ⟨M + 1, 0, none⟩ = some (.map (some M)) ∧ M + 2 ≤ wr.heap.size ∧ (∀ b o u, wr.cell? ⟨b, o, none⟩ = some u → b ≠ M) ∧ (∃ A c, v = .slice A (rows.reverse.take k).length c) := by
  obtain ⟨f, n, c, h1, h2, h3, h4, h5, h6, h7⟩ := h
  exact ⟨(cells1 h1.cell).1, h1.size, fun b o u hc => h1.map.ne_cell hc, h7.form⟩
/-- One node more. -/
theorem DqSt.come {w2 wr w7 : World} {o : Obj} {M a k : Nat} {l : List Op1} {rows : List (List Value)} {v v' : Value} {r : List Value} (h : DqSt w2 wr o M l rows a k v) (hr : rows.reverse[k]? = some r) (ho : OwnL (repRaw 5) 37 w7 (M + 2) (fun _ => False) v' (rows.reverse.take k ++ [r])) (hb : Below (M + 2) wr w7) : DqSt w2 w7 o M l rows a (k + 1) v' := by
  obtain ⟨f, n, c, h1, h2, h3, h4, h5, h6, h7⟩ := h
  have hg := h1.gt
  have hs := h1.size
  refine ⟨f, n, c, ⟨Below.trans h1.since (hb.mono (by omega)), (hb.block _ (by omega)).trans h1.h, (hb.block _ (by omega)).trans h1.cell, h1.map.keep (hb.block _ (by omega)), h1.gt, Nat.le_trans h1.size hb.size⟩, h2, h3, h4, h5, h6, ?_⟩
  rw [List.take_add_one, hr]
  exact ho
theorem DqSt.more {w2 wr : World} {o : Obj} {M a a' k : Nat} {l : List Op1} {rows : List (List Value)} {v : Value} (h : DqSt w2 wr o M l rows a k v) (ha : a ≤ a') : DqSt w2 wr o M l rows a' k v := by
  obtain ⟨f, n, c, h1, h2, h3, h4, h5, h6, h7⟩ := h
  exact ⟨f, n, c, h1, h2, h3, h4, by omega, by omega, h7⟩
theorem no_name {o : ByteArray} {m : Nat} (h : NdOp o m) : (o.toList == [71, 97, 116, 104, 101, 114]) = false ∧ (o.toList == [68, 105, 118]) = false := by
  rcases h with ⟨h | h | h, _⟩ | ⟨h, _⟩
  all_goals subst h; exact ⟨by kernel_rfl, by kernel_rfl⟩
set_option maxHeartbeats 6400000 in
theorem dead_any (gn : ByteArray) (An Ai Ao : Option Addr) (cn ci co : Nat) (l : List Op1) (x : Int) (w : World) (h : FlatG w An Ai Ao l x) :
    Calls Tryz.prog 55 #[.agg #[.string gn, .slice An l.length cn, .slice Ai 1 ci, .slice Ao l.length co, .slice none 0 0]] w (PassIs gn l x w) := by
  have H := Lib.hid h
  have H5 := h.ok.most
  have H0 := h.ok.pos
  have hnl : (l.length : Int) ≤ 5 := by omega
  have hmm := @run_makeMap Tryz.prog
  clear h
  go_enter Tryz.func55, Tryz.ntmps55
  go_wp2_with fail
  refine newX2 (F := fun W => Calls _ _ _ W _) ?_
  intro w1 h1
  refine (fsorted_any gn An Ai Ao cn ci co l x w1 (H.out.below h1.below)).mono ?_
  rintro e w2 ⟨An', Ai', Ao', cn', ci', co', A, c, rfl, hf, hvl, hb⟩
  have h2 := h1.all hb
  clear hb h1
  have HF := Lib.hid hf
  have HX := Lib.hid h2
  have HVL := Lib.hid hvl
  clear hf h2 hvl
  go_wp2_with fail
  have h3 := fx2 w2 (.cells #[.string gn, .slice An' l.length cn', .slice Ai' 1 ci', .slice Ao' l.length co', .slice none 0 0] 33) (.map #[] 0)
  have H3 := Lib.hid h3
  clear h3
  generalize (w2.alloc (.cells #[.string gn, .slice An' l.length cn', .slice Ai' 1 ci', .slice Ao' l.length co', .slice none 0 0] 33)).alloc (.map #[] 0) = w3 at H3 ⊢
  go_loopw [32] (fun i wr => ∃ (k : Nat) (f : ByteArray → Option Value) (n : Nat), k ≤ l.length + 1 ∧ i = .int .i64 k ∧ Since w2 wr ∧ wr.heap[w2.heap.size]? = some (.cells #[.string gn, .slice An' l.length cn', .slice Ai' 1 ci', .slice Ao' l.length co', .slice none 0 0] 33 (0, 0)) ∧ MapIs wr (w2.heap.size + 1) f n ∧ n ≤ k ∧ w2.heap.size + 2 ≤ wr.heap.size) (fun i _ => l.length + 1 - (intOf i).toNat)
  case atStart => exact ⟨0, _, 0, by omega, rfl, H3.out.below, H3.out.b0 rfl, mapIs_new (H3.out.b1 rfl), by omega, H3.out.size⟩
  case round =>
    obtain ⟨k, f, n, hk, rfl, hs, hh, hm, hn, hz⟩ := hrel
    by_cases hlt : k < l.length + 1
    · obtain ⟨bv, offv, rfl, hbv, hcv⟩ := HVL.out.below hs
      obtain ⟨s, hs'⟩ : ∃ s, (⟨#[120]⟩ :: l.map (·.out))[k]? = some s := ⟨_, List.getElem?_eq_getElem (by simpa using hlt)⟩
      obtain ⟨Ad, cd, q0, q1, q2, q3⟩ := hcv k s hs'
      have hss : s.size ≤ 1000 := by
        rcases List.mem_cons.1 (List.mem_of_getElem? hs') with rfl | hmem
        · decide
        · obtain ⟨o, ho, rfl⟩ := List.mem_map.1 hmem
          exact HF.out.ok.short o ho
      have hb1 := (Since.refl wr).al (.cells #[.string s, .int .i64 6, .slice Ad 1 cd] 28)
      obtain ⟨w5, hp, hm5, hg5⟩ := (hm.below hb1).put Tryz.und142 hss (by omega) (.int .i64 6)
      have ho5 := grown_only hg5
      have HM5 := Lib.hid hm5
      have HS5 := Lib.hid (Below.trans (hs.trans hb1) (ho5.below (by omega) (by simp; omega)))
      have HH5 := Lib.hid ((ho5.block w2.heap.size (by simp; omega) (by omega)).trans (hb1.kp hh))
      have hz5 : w2.heap.size + 2 ≤ w5.heap.size := by have := ho5.size; simp at this; omega
      have hn5 : (if (f s).isSome then n else n + 1) ≤ k + 1 := by split <;> omega
      have HN5 := Lib.hid hn5
      have hki : (k : Int) < (l.length : Int) + 1 := by omega
      clear hs hh hm hcv q3 hs' hb1 hg5 ho5 hm5 hn5 hn
      go_wp2_with fail
      go_roundw
      case rel => exact ⟨k + 1, _, _, by omega, by go_num, HS5.out, HH5.out, HM5.out, HN5.out, hz5⟩
      case measure => simp [intOf]; omega
    · obtain rfl : k = l.length + 1 := by omega
      have hz4 := fx2 wr (.map #[] 0) (.cells #[.map (some wr.heap.size)] 142)
      have hs4 : Since wr ((wr.alloc (.map #[] 0)).alloc (.cells #[.map (some wr.heap.size)] 142)) := hz4.below
      have HD := Lib.hid (show DeSt w2 ((wr.alloc (.map #[] 0)).alloc (.cells #[.map (some wr.heap.size)] 142)) (.cells #[.string gn, .slice An' l.length cn', .slice Ai' 1 ci', .slice Ao' l.length co', .slice none 0 0] 33) wr.heap.size (onF l 0) 0 from ⟨hs.trans hs4, hs4.kp hh, hz4.b1 rfl, mapIs_new (hz4.b0 rfl), by omega, hz4.size⟩)
      obtain ⟨r0, r1, r2, r3, r4, -⟩ := cells5 (hs4.kp hh)
      have hd : ¬ (((l.length + 1 : Nat) : Int) < (l.length : Int) + 1) := by omega
      clear hs hh hm hlt hn hz4 hs4
      go_wp2_with fail
      clear r0 r1 r2 r3 r4 hd
      generalize (wr.alloc (.map #[] 0)).alloc (.cells #[.map (some wr.heap.size)] 142) = w4 at HD ⊢
      generalize wr.heap.size = M at HD hz ⊢
      go_loopw [46] (fun i wr => ∃ k : Nat, k ≤ l.length ∧ i = .int .i64 k ∧ DeSt w2 wr (.cells #[.string gn, .slice An' l.length cn', .slice Ai' 1 ci', .slice Ao' l.length co', .slice none 0 0] 33) M (onF l k) k) (fun i _ => l.length - (intOf i).toNat)
      case atStart => exact ⟨0, by omega, rfl, HD.out⟩
      case round =>
        obtain ⟨k, hk, rfl, hs⟩ := hrel
        by_cases hlt : k < l.length
        · have hF := HF.out.below hs.since
          obtain ⟨bv, offv, rfl, hbv, hcv⟩ := hF.outs
          obtain ⟨o, ho⟩ : ∃ o, l[k]? = some o := ⟨_, List.getElem?_eq_getElem hlt⟩
          obtain ⟨Ad, cd, q0, q1, q2, q3⟩ := hcv k o.out (by simp [ho])
          have hb1 := (Since.refl wr).al (.cells #[.string o.out, .int .i64 6, .slice Ad 1 cd] 28)
          have hs1 := hs.later hb1
          have hsh := hF.ok.short o (List.mem_of_getElem? ho)
          have hl2 := hs1.map.look (s := o.out) Tryz.und142 (zero3 _) hsh
          obtain ⟨w5, hp, hm5, hg5⟩ := hs1.map.put Tryz.und142 hsh (by omega) (.int .i64 1)
          rw [onF_out hF.ok ho k hk, if_neg (Nat.lt_irrefl k)] at hl2 hm5
          simp only [Option.isSome_none, Option.getD_none, Bool.false_eq_true, if_false] at hl2 hm5
          have e1 : upd (onF l k) o.out (.int .i64 1) = onF l (k + 1) := by simp [onF, ho]
          rw [e1] at hm5
          have H5' := Lib.hid (hs1.put hm5 hg5)
          obtain ⟨m0, -⟩ := cells1 hs.cell
          have n1 : M + 1 < wr.heap.size := hs.size
          clear hs hF hcv q3 ho hb1 hs1 hm5 hg5 e1 hsh
          go_wp2_with fail
          go_roundw
          case rel => exact ⟨k + 1, by omega, by go_num, H5'.out⟩
          case measure => simp [intOf]; omega
        · obtain rfl : k = l.length := by omega
          obtain ⟨r0, r1, r2, r3, r4, -⟩ := cells5 hs.h
          obtain ⟨rows, hrows⟩ := HF.out.nodes.raw
          have HR := Lib.hid hrows
          have HS := Lib.hid hs
          clear hs hrows hlt HD
          go_wp2_with fail
          obtain ⟨i37, hi37⟩ : ∃ i, Tryz.prog.info? 37 = some i ∧ i.zero = some (.agg #[.string ⟨#[]⟩, .string ⟨#[]⟩, .slice none 0 0, .string ⟨#[]⟩, .slice none 0 0]) ∧ i.size = 5 ∧ i.bytes = 96 := by
            obtain ⟨i, h1, h2, h3, h4⟩ := info_parts Tryz.info37
            exact ⟨i, h1, h2, h3, h4⟩
          have HI := Lib.hid hi37
          have HL := Lib.hid HR.out.len
          have HD0 : Hid (DqSt w2 wr (.cells #[.string gn, .slice An' l.length cn', .slice Ai' 1 ci', .slice Ao' l.length co', .slice none 0 0] 33) M l rows 0 0 (.slice none 0 0)) := Lib.hid ⟨_, _, 0, HS.out, fun j p hj => by rw [onF_out HF.out.ok hj l.length (Nat.le_refl _), if_pos (List.getElem?_eq_some_iff.1 hj).1], by
            have : ∀ k, k ≤ l.length → onF l k ⟨#[120]⟩ = none := by
              intro k
              induction k with
              | zero => intro _; rfl
              | succ k ih =>
                intro hk
                obtain ⟨o, ho⟩ : ∃ o, l[k]? = some o := ⟨_, List.getElem?_eq_getElem hk⟩
                simp only [onF, ho, Option.map_some, Option.getD_some, upd]
                rw [if_neg (fun e => out_ne_x HF.out.ok ho e.symm)]
                exact ih (by omega)
            rw [this l.length (Nat.le_refl _)]; rfl, by omega, by omega, by omega, ownL_nil⟩
          clear hi37 r0 r1 r2 r3 r4 HS
          go_loopw [13, 59] (fun v i wr => ∃ k : Nat, k ≤ l.length ∧ i = .int .i64 k ∧ DqSt w2 wr (.cells #[.string gn, .slice An' l.length cn', .slice Ai' 1 ci', .slice Ao' l.length co', .slice none 0 0] 33) M l rows (2 * k) k v) (fun _ i _ => l.length - (intOf i).toNat)
          case atStart => exact ⟨0, by omega, rfl, HD0.out⟩
          case round =>
            obtain ⟨k, hk, rfl, hs⟩ := hrel
            by_cases hlt : k < l.length
            · obtain ⟨j, hj⟩ : ∃ j : Nat, (l.length : Int) - 1 - (k : Int) = (j : Int) := ⟨l.length - 1 - k, by omega⟩
              have hjl : j < l.length := by omega
              obtain ⟨f, nn, cc, h1, h2, h3, h4, h5, h6, h7⟩ := hs
              obtain ⟨hl, bn, offn, rfl, hbn, hcn⟩ := HR.out.since h1.since
              obtain ⟨r, hr⟩ : ∃ r, rows[j]? = some r := ⟨_, List.getElem?_eq_getElem (by rw [hl]; exact hjl)⟩
              obtain ⟨o, nm, A', c', ho, hre, hx, hcells⟩ := hcn j r hr
              subst hre
              have q0 := hcells 0 (by omega)
              have q1 := hcells 1 (by omega)
              have q2 := hcells 2 (by omega)
              have q3 := hcells 3 (by omega)
              have q4 := hcells 4 (by omega)
              simp only [Nat.add_zero, List.getElem?_cons_zero, List.getElem?_cons_succ] at q0 q1 q2 q3 q4
              obtain ⟨s0, s1, s2, s3, s4, -⟩ := cells5 h1.h
              have hop := HF.out.ok.ops o (List.mem_of_getElem? ho)
              obtain ⟨nn1, nn2⟩ := no_name hop
              have hwb := (Since.refl wr).al (.cells #[.string o.op, .string nm, .slice A' o.m c', .string o.out, .slice none 0 0] 37)
              have hq1 : DqSt w2 (wr.alloc (.cells #[.string o.op, .string nm, .slice A' o.m c', .string o.out, .slice none 0 0] 37)) (.cells #[.string gn, .slice (some ⟨bn, offn, none⟩) l.length cn', .slice Ai' 1 ci', .slice Ao' l.length co', .slice none 0 0] 33) M l rows (2 * k) k u13 := DqSt.later ⟨f, nn, cc, h1, h2, h3, h4, h5, h6, h7⟩ hwb
              have hlk := (h1.map.below hwb).look (s := o.out) Tryz.und142 (zero3 _) (HF.out.ok.short o (List.mem_of_getElem? ho))
              rw [h2 j o ho] at hlk
              simp only [Option.getD_some] at hlk
              obtain ⟨m0, -⟩ := cells1 h1.cell
              have n1 : M + 1 < wr.heap.size := h1.size
              have HQ1 := Lib.hid hq1
              have HX1 := Lib.hid (hx.below hwb)
              have hgn := heap_alloc_new wr (.cells #[.string o.op, .string nm, .slice A' o.m c', .string o.out, .slice none 0 0] 37)
              have HGN := Lib.hid hgn
              have HZ1 := Lib.hid (show M + 2 ≤ wr.heap.size from h1.size)
              have HRR := Lib.hid hr
              have Hop := Lib.hid hop
              clear h1 h2 h3 h4 h5 h6 h7 hcn hcells hx hr ho hop hwb hq1 hgn hl
              go_wp2_with fail
              have hki : (k : Int) ≤ 5 := by omega
              generalize wr.alloc (.cells #[.string o.op, .string nm, .slice A' o.m c', .string o.out, .slice none 0 0] 37) = wa at HQ1 HX1 HGN ⊢
              generalize wr.heap.size = N at HGN HZ1 hbn ⊢
              go_loopw [101] (fun i wy => ∃ q : Nat, q ≤ o.m ∧ i = .int .i64 q ∧ DqSt w2 wy (.cells #[.string gn, .slice (some ⟨bn, offn, none⟩) l.length cn', .slice Ai' 1 ci', .slice Ao' l.length co', .slice none 0 0] 33) M l rows (2 * k + q) k u13 ∧ Xs wy A' o.m ∧ wy.heap[N]? = some (.cells #[.string o.op, .string nm, .slice A' o.m c', .string o.out, .slice none 0 0] 37 (0, 0))) (fun i _ => o.m - (intOf i).toNat)
              case atStart => exact ⟨0, by omega, rfl, HQ1.out, HX1.out, HGN.out⟩
              case round =>
                obtain ⟨q, hq, rfl, hs, hx, hg⟩ := hrel
                have hm2 := Hop.out.cases
                by_cases hqm : q < o.m
                · obtain ⟨c5, w5, z1, z2, hl5, hp5, hs5, ho5⟩ := hs.count HF.out.ok (by omega)
                  obtain ⟨m0, n1, nM, -⟩ := hs.cellM
                  obtain ⟨b2, off2, rfl, hb2, hc2⟩ := hx
                  have c0 := hc2 q hqm
                  have HX5 := Lib.hid (show Xs w5 (some ⟨b2, off2, none⟩) o.m from ⟨b2, off2, rfl, Nat.lt_of_lt_of_le hb2 ho5.size, fun j hj => (World.cell?_of_block (a := ⟨b2, off2 + j, none⟩) (ho5.block b2 hb2 (nM _ _ _ (hc2 j hj)))).trans (hc2 j hj)⟩)
                  have HS5 := Lib.hid hs5
                  have HG5 := Lib.hid ((ho5.block N (Array.getElem?_eq_some_iff.1 hg).1 (by have := HZ1.out; omega)).trans hg)
                  clear hs hs5 ho5 hc2 hg nM
                  go_wp2_with fail
                  go_roundw
                  case rel => exact ⟨q + 1, by omega, by go_num, HS5.out, HX5.out, HG5.out⟩
                  case measure => simp [intOf]; omega
                · obtain rfl : q = o.m := by omega
                  obtain ⟨m0, n1, -, Av, cv, e5⟩ := hs.cellM
                  rw [List.length_take, List.length_reverse, HL.out, Nat.min_eq_left hk] at e5
                  subst e5
                  have hrr : rows.reverse[k]? = some [.string o.op, .string nm, .slice A' o.m c', .string o.out, .slice none 0 0] := by
                    rw [List.getElem?_reverse (by rw [HL.out]; exact hlt), HL.out, show l.length - 1 - k = j by omega]
                    exact HRR.out
                  have hown : OwnL (repRaw 5) 37 wr (M + 2) (fun _ => False) (.slice Av k cv) (rows.reverse.take k) := by
                    obtain ⟨f, n, c, h1, h2, h3, h4, h5, h6, h7⟩ := hs
                    exact h7
                  obtain ⟨q0, q1, q2, q3, q4, -⟩ := cells5 hg
                  have HS := Lib.hid hs
                  have HOW := Lib.hid hown
                  have HRv := Lib.hid hrr
                  clear hs hown hrr hx hg hqm
                  go_wp2_with (at_builtin; refine wpList_append_f wr (repRaw 5) (flatRaw 5) [.string o.op, .string nm, .slice A' o.m c', .string o.out, .slice none 0 0] [.string o.op, .string nm, .slice A' o.m c', .string o.out, .slice none 0 0] rfl (.tmp 110) (.tmp 112) 30 rfl 37 i37 _ 96 Tryz.underlying30 HI.out.1 HI.out.2.1 HI.out.2.2.1 HI.out.2.2.2 rfl (by decide) (by decide) (M + 2) _ _ rfl HOW.out ⟨rfl, rfl, by simp [Value.oneCell']⟩ wr.heap.size rfl rfl (by rw [List.length_take]; omega) n1 ?_; intro v' w7 ho7 hb7)
                  have hs7 := HS.out.come HRv.out ho7 hb7
                  have hle : 2 * k + o.m ≤ 2 * (k + 1) := by omega
                  have hs8 := hs7.more hle
                  go_roundw
                  case rel => exact ⟨k + 1, by omega, by go_num, hs8⟩
                  case measure => simp [intOf]; omega
            · obtain rfl : k = l.length := by omega
              obtain ⟨f, nn, cc, h1, h2, h3, h4, h5, h6, h7⟩ := hs
              have htk : rows.reverse.take l.length = rows.reverse := List.take_of_length_le (by simp [HL.out])
              rw [htk] at h7
              have hrl : rows.reverse.length = l.length := by simp [HL.out]
              obtain ⟨b, c, rfl, hB, hb, hrev⟩ := reverse_own h7 (by omega) (by omega)
              rw [hrl] at hrev
              rw [hrl]
              have HD1 := Lib.hid h1
              have HB := Lib.hid (show M + 2 ≤ b ∧ b < wr.heap.size from ⟨hB, hb⟩)
              clear h1 h2 h3 h4 h5 h6 h7 hB hb htk
              go_wp2_with fail
              refine (hrev wr (Since.refl _)).mono ?_
              rintro e w5 ⟨rfl, ho5, hc5⟩
              have hgt := HD1.out.gt
              have hs5 : Since w2 w5 := Below.trans HD1.out.since (ho5.below (by have := HB.out.1; omega) (by have := HD1.out.size; omega))
              have g5 := (ho5.block w2.heap.size (by have := HD1.out.size; omega) (by have := HB.out.1; omega)).trans HD1.out.h
              obtain ⟨r0, r1, r2, r3, r4, f0, f1, f2, f3, f4⟩ := cells5 g5
              have hx2 := HX.out.all hs5
              have g1 := hx2.b1 rfl
              obtain ⟨y0, y1, y2, y3, y4, k0, k1, k2, k3, k4⟩ := cells5 g1
              have HS5 := Lib.hid hs5
              have n1 : w2.heap.size ≠ w.heap.size + 1 := by have := HX.out.size; simp at this; omega
              have G5 := Lib.hid g5
              have G1 := Lib.hid g1
              have HX2 := Lib.hid hx2
              have HC5 := Lib.hid hc5
              have HO5 := Lib.hid ho5
              have hbn : b ≠ w2.heap.size := by have := HB.out.1; omega
              clear hs5 ho5 hc5 g5 hrev hx2 g1
              go_wp2_with fail
              refine (delf_nil _ _).mono ?_
              rintro e w6 ⟨rfl, rfl⟩
              go_wp2_with fail
              have hs7 : Since w2 ((w5.setCell ⟨w2.heap.size, 1, none⟩ (.slice (some ⟨b, 0, none⟩) l.length c)).setCell ⟨w2.heap.size, 4, none⟩ (.slice none 0 0)) := Below.setCell (Below.setCell HS5.out (Nat.le_refl _) _) (Nat.le_refl _) _
              have hk7 : ∀ q, q ≠ w2.heap.size → ((w5.setCell ⟨w2.heap.size, 1, none⟩ (.slice (some ⟨b, 0, none⟩) l.length c)).setCell ⟨w2.heap.size, 4, none⟩ (.slice none 0 0)).heap[q]? = w5.heap[q]? := fun q hq => (Below.heap_setCell _ _ _ _ hq).trans (Below.heap_setCell _ _ _ _ hq)
              have hz7 : ((w5.setCell ⟨w2.heap.size, 1, none⟩ (.slice (some ⟨b, 0, none⟩) l.length c)).setCell ⟨w2.heap.size, 4, none⟩ (.slice none 0 0)).heap.size = w5.heap.size := by simp [World.setCell]
              generalize (w5.setCell ⟨w2.heap.size, 1, none⟩ (.slice (some ⟨b, 0, none⟩) l.length c)).setCell ⟨w2.heap.size, 4, none⟩ (.slice none 0 0) = w7 at hs7 hk7 hz7 ⊢
              have g1 := (HX.out.all hs7).b1 rfl
              have hnd : NdAt w7 (some ⟨b, 0, none⟩) l := HR.out.same (fun A m h => h.below hs7) (by rw [hz7]; have := HO5.out.size; have := HB.out.2; omega) (fun j cs hj i hi => (World.cell?_of_block (a := ⟨b, j * 5 + i, none⟩) (hk7 b hbn)).trans (HC5.out j cs (by rw [List.reverse_reverse]; exact hj) i hi))
              have hfl : FlatG w7 (some ⟨b, 0, none⟩) Ai' Ao' l x := ⟨HF.out.ok, HF.out.gl.below hs7, HF.out.lo, HF.out.hi, hnd, HF.out.ins.below hs7, HF.out.outs.below hs7⟩
              have HB7 := HX.out.below.trans (hs7.mono (Nat.le_of_lt (by have := HX.out.size; simp at this; omega)))
              refine put5 (F := fun W => bodyPost Tryz.prog Tryz.f55 (PassIs gn l x w) Exit.ret _ W) g1 ?_
              intro w9 g9 hk9 hb9 hz9
              refine bodyPost_ret (res_row_tmp rfl _ _ (w.heap.size + 1) 33 _ (0, 0) _ rfl g9 Tryz.underlying33 rfl (by kernel_rfl)) rfl ?_
              have hB9 : Below w.heap.size w w9 := HB7.trans (hb9.mono (by omega))
              exact ⟨_, _, _, _, _, _, rfl, hfl.zrow g1 (fun k hk => hk9 k hk) (by omega) (H.out.gl.below hB9), hB9⟩
end Go.Proofs.YtbilddeepnnogaaGreatDoor
end
