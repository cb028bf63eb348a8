import Derived.Test.YtbilddeepnnogaaGreatDoorPjm
import Derived.Test.YtbilddeepnnogaaGreatDoorPam
import Derived.Test.YtbilddeepnnogaaGreatDoorFem
set_option linter.unusedVariables false
set_option linter.unusedSimpArgs false
/- Layer 5: Decode; what is told is read as the graph. -/
set_option linter.unusedVariables false
set_option maxRecDepth 100000
namespace Go.Proofs.YtbilddeepnnogaaGreatDoor
open Go.RowKit Go.Shelf

theorem dcatch_idle (p q : Addr) (w : World) :
    CallsD Tryz.prog 48 #[.pointer (some p), .pointer (some q)] .returning w fun e u' w' => e = .returned (.tuple #[]) ∧ u' = .returning ∧ w' = w := by
  refine callsD_of_wpS Tryz.func48 rfl fun c₀ cs hu => ?_
  apply wpS_seq
  apply wpS_region
  simp [wpOpsS, go_sem, recoverD, hu, Tryz.ntmps48, Exit.thenS]
  rw [show #[Value.pointer (some p), Value.pointer (some q)] ++ ((Array.replicate 16 undef).setIfInBounds 3 Value.nilIface).setIfInBounds 0 Value.nilIface = #[Value.pointer (some p), Value.pointer (some q), Value.nilIface, undef, undef, Value.nilIface, undef, undef, undef, undef, undef, undef, undef, undef, undef, undef, undef, undef] from rfl]
  refine wpS_of_wp ?_
  go_wp2
  cases c₀
  simp_all [bodyPostS, results, Tryz.results48]
abbrev decDefers (w : World) : List Deferred := [{ target := .fn (.func 48) #[.pointer (some ⟨w.heap.size, 0, none⟩), .pointer (some ⟨w.heap.size + 1, 0, none⟩)], args := #[] }]
theorem dec_done {w W : World} {A1 A2 A3 : Option Addr} {n1 c1 c2 c3 : Nat} {Q : Ending → World → Prop} (hp : W.heap[w.heap.size]? = some (.cells #[.string ⟨#[]⟩, .slice A1 n1 c1, .slice A2 1 c2, .slice A3 n1 c3, .slice none 0 0] 33 (0, 0))) (hq : W.heap[w.heap.size + 1]? = some (.cells #[.int .i64 0] 39 (0, 0)))
    (hQ : Q (.returned (.tuple #[.agg #[.string ⟨#[]⟩, .slice A1 n1 c1, .slice A2 1 c2, .slice A3 n1 c3, .slice none 0 0], .int .i64 0])) W) (a : Act) (h2 : a.tmps.getD 2 undef = .pointer (some ⟨w.heap.size, 0, none⟩)) (h3 : a.tmps.getD 3 undef = .pointer (some ⟨w.heap.size + 1, 0, none⟩)) (hd : a.defers = decDefers w) :
    bodyPostD Tryz.prog Tryz.f23 Q .ret a W := by
  show Leaves Tryz.prog Tryz.f23 a.tmps Q a.defers .returning W
  rw [hd]
  refine leaves_cons (f := 48) (args := #[.pointer (some ⟨w.heap.size, 0, none⟩), .pointer (some ⟨w.heap.size + 1, 0, none⟩)]) (by simp) (by simp [go_sem]) ?_
  refine (dcatch_idle _ _ _).mono ?_
  rintro e u' w'' ⟨rfl, rfl, rfl⟩
  obtain ⟨p0, p1, p2, p3, p4, -⟩ := cells5 hp
  obtain ⟨q0, -⟩ := cells1 hq
  clear hp hq
  rw [Array.getD_eq_getD_getElem?] at h2 h3
  simp [Leaves, settle, results, Tryz.results23, go_sem, p0, p1, p2, p3, p4, q0, h2, h3]
  exact hQ
set_option maxHeartbeats 3200000 in
theorem decode_w (l : List Op1) (x : Nat) (hl : FlatL l) (hx1 : 1 ≤ x) (hx : x ≤ 30) (hs : ∀ o ∈ l, (o.op.size ≤ 100 ∧ o.out.size ≤ 100) ∧ o.m ≤ 2) (w : World) (hgl : Gl w) :
    Calls Tryz.prog 23 #[.string (textB (modelFs l x))] w (PassIs ⟨#[]⟩ l x w) := by
  have h5 := hl.most
  have hmf : ∀ (fn : Fn) (first cap : Array Value) (w : World), (Instr.makeFunc fn first cap).run Tryz.prog w = .ok (.func fn first cap) w := fun _ _ _ _ => rfl
  have HJ := Lib.hid (fun W => joinedP (modelFs l x) 7 1 (textB (graphFs l x)) (model_ok hs h5) rfl (fun j f hj hne => by
    match j, hj, hne with
    | 0, hj, _ => cases hj; decide
    | 1, hj, hne => exact absurd rfl hne
    | 2, hj, _ => cases hj; decide
    | j + 3, hj, _ => simp [modelFs] at hj) (by simp [modelFs]) W)
  have HG := Lib.hid (fun W => graph51 l x hl hx1 hx hs W)
  have HGL := Lib.hid hgl
  clear hl hs hgl
  go_enter_defers Tryz.func23, Tryz.ntmps23
  go_wp2_with fail
  refine newX2 (F := fun W => Calls _ _ _ W _) ?_
  intro w1 h1
  have z1 : w.heap.size + 2 ≤ w1.heap.size := h1.size
  have HX1 := Lib.hid h1
  clear h1
  refine (HJ.out w1).mono ?_
  rintro e w2 ⟨rfl, hs2⟩
  have HX2 := Lib.hid (HX1.out.all hs2)
  have z2 := hs2.size
  clear hs2 hmf
  go_wp2_with (go_at_call 14; refine (must_yes _ _).mono ?_; rintro e w4 ⟨rfl, rfl⟩)
  refine (HG.out w2).mono ?_
  rintro e w3 ⟨An, cn, Ai, ci, Ao, co, rfl, hf, hs3⟩
  have z3 := hs3.size
  have hx3 := HX2.out.all hs3
  have g0 := hx3.b0 rfl
  have g1 := hx3.b1 rfl
  obtain ⟨q0, q1, q2, q3, q4, f0, f1, f2, f3, f4⟩ := cells5 g0
  obtain ⟨e0, e1⟩ := cells1 g1
  have HF := Lib.hid (And.intro hf (And.intro g0 (And.intro g1 hx3.below)))
  clear hf hs3 hx3 g0 g1
  go_wp2_with fail
  obtain ⟨hf, g0, g1, hb⟩ := HF.out
  have rf := setFrom_heap 33 w.heap.size [.string ⟨#[]⟩, .slice An l.length cn, .slice Ai 1 ci, .slice Ao l.length co, .slice none 0 0] 0 w3 _ g0
  obtain ⟨kf, zf, -⟩ := setFrom_keep w.heap.size [.string ⟨#[]⟩, .slice An l.length cn, .slice Ai 1 ci, .slice Ao l.length co, .slice none 0 0] 0 w3
  have h2 := heap_setCell_same (setFrom w3 w.heap.size 0 [.string ⟨#[]⟩, .slice An l.length cn, .slice Ai 1 ci, .slice Ao l.length co, .slice none 0 0]) (w.heap.size + 1) 0 _ 39 (.int .i64 0) ((kf _ (by omega)).trans g1)
  have sW : Below w.heap.size w ((setFrom w3 w.heap.size 0 [.string ⟨#[]⟩, .slice An l.length cn, .slice Ai 1 ci, .slice Ao l.length co, .slice none 0 0]).setCell ⟨w.heap.size + 1, 0, none⟩ (.int .i64 0)) := (Below.trans hb (setFrom_below (Nat.le_refl w.heap.size) [.string ⟨#[]⟩, .slice An l.length cn, .slice Ai 1 ci, .slice Ao l.length co, .slice none 0 0] 0 w3)).setCell (by show w.heap.size ≤ w.heap.size + 1; omega) _
  have hk : ∀ k, w2.heap.size ≤ k → k < w3.heap.size → ((setFrom w3 w.heap.size 0 [.string ⟨#[]⟩, .slice An l.length cn, .slice Ai 1 ci, .slice Ao l.length co, .slice none 0 0]).setCell ⟨w.heap.size + 1, 0, none⟩ (.int .i64 0)).heap[k]? = w3.heap[k]? := fun k h1 _ => (Below.heap_setCell _ _ _ _ (by dsimp only; omega)).trans (kf k (by omega))
  have hz : w3.heap.size ≤ ((setFrom w3 w.heap.size 0 [.string ⟨#[]⟩, .slice An l.length cn, .slice Ai 1 ci, .slice Ao l.length co, .slice none 0 0]).setCell ⟨w.heap.size + 1, 0, none⟩ (.int .i64 0)).heap.size := by
    rw [← zf]
    exact Nat.le_of_eq (by simp [World.setCell])
  exact dec_done (W := (setFrom w3 w.heap.size 0 [.string ⟨#[]⟩, .slice An l.length cn, .slice Ai 1 ci, .slice Ao l.length co, .slice none 0 0]).setCell ⟨w.heap.size + 1, 0, none⟩ (.int .i64 0)) ((Below.heap_setCell _ _ _ _ (by dsimp only; omega)).trans rf) (by simpa using h2) ⟨An, Ai, Ao, cn, ci, co, rfl, hf _ hk hz (HGL.out.below sW), sW⟩ _ rfl rfl rfl
end Go.Proofs.YtbilddeepnnogaaGreatDoor
