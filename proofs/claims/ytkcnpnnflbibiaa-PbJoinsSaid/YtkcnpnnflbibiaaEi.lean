/- The walks: a graph written, whole. -/
import Derived.Test.YtkcnpnnflbibiaaEh
set_option linter.unusedVariables false
namespace Go.Proofs.Ytkcnpnnflbibiaa
open Go.RowKit

theorem enc_bad1 {g : Gr} {e : Int} (ht : toldB g = true) (h : graphFds g = .error e) : encodeE g = .error e := by
  unfold encodeE; rw [ht, h]; rfl
theorem graph_bad1 {g : Gr} {e : Int} (h : mapE nodeB 1 g.nodes = .error e) : graphFds g = .error e := by unfold graphFds; rw [h]
theorem graph_bad2 {g : Gr} {e : Int} {m1 : List Fd} (h1 : mapE nodeB 1 g.nodes = .ok m1) (h : mapE initB 5 g.inits = .error e) : graphFds g = .error e := by unfold graphFds; rw [h1]; simp only []; rw [h]
theorem graph_bad3 {g : Gr} {e : Int} {m1 m2 : List Fd} (h1 : mapE nodeB 1 g.nodes = .ok m1) (h2 : mapE initB 5 g.inits = .ok m2) (h : mapE valueB 11 g.ins = .error e) : graphFds g = .error e := by unfold graphFds; rw [h1]; simp only []; rw [h2]; simp only []; rw [h]
theorem graph_bad4 {g : Gr} {e : Int} {m1 m2 m3 : List Fd} (h1 : mapE nodeB 1 g.nodes = .ok m1) (h2 : mapE initB 5 g.inits = .ok m2) (h3 : mapE valueB 11 g.ins = .ok m3) (h : mapE valueB 12 g.outs = .error e) : graphFds g = .error e := by unfold graphFds; rw [h1]; simp only []; rw [h2]; simp only []; rw [h3]; simp only []; rw [h]
theorem graph_good {g : Gr} {m1 m2 m3 m4 : List Fd} (h1 : mapE nodeB 1 g.nodes = .ok m1) (h2 : mapE initB 5 g.inits = .ok m2) (h3 : mapE valueB 11 g.ins = .ok m3) (h : mapE valueB 12 g.outs = .ok m4) : graphFds g = .ok ((((m1 ++ [⟨2, 2, 0, g.name⟩]) ++ m2) ++ m3) ++ m4) := by unfold graphFds; rw [h1]; simp only []; rw [h2]; simp only []; rw [h3]; simp only []; rw [h]
theorem graph_fds_ok {g : Gr} (hk : Keeping g) {m1 m2 m3 m4 : List Fd} (h1 : mapE nodeB 1 g.nodes = .ok m1) (h2 : mapE initB 5 g.inits = .ok m2) (h3 : mapE valueB 11 g.ins = .ok m3) (h4 : mapE valueB 12 g.outs = .ok m4) :
    (∀ f ∈ (((m1 ++ [⟨2, 2, 0, g.name⟩]) ++ m2) ++ m3) ++ m4, FdOk f) ∧ bulk ((((m1 ++ [⟨2, 2, 0, g.name⟩]) ++ m2) ++ m3) ++ m4) ≤ 4611686018427387904 := by
  obtain ⟨a1, b1⟩ := mapE_ok nodeB_size (by omega) (by omega) h1
  obtain ⟨a2, b2⟩ := mapE_ok initB_size (by omega) (by omega) h2
  obtain ⟨a3, b3⟩ := mapE_ok valueB_size (by omega) (by omega) h3
  obtain ⟨a4, b4⟩ := mapE_ok valueB_size (by omega) (by omega) h4
  have k1 := hk.nodes
  have k2 := hk.sum
  have k3 := hk.outs
  have k4 := hk.name
  refine ⟨fun f hf => ?_, by simp only [bulk_app, bulk]; omega⟩
  simp only [List.mem_append, List.mem_singleton] at hf
  rcases hf with (((hf | rfl) | hf) | hf) | hf
  · exact a1 f hf
  · exact fdOk_t 2 _ (by omega) (by omega) (by omega)
  · exact a2 f hf
  · exact a3 f hf
  · exact a4 f hf
theorem three_blocks' (w : World) (a b c : Obj) : (((w.alloc a).alloc b).alloc c).heap[w.heap.size]? = some a ∧ (((w.alloc a).alloc b).alloc c).heap[w.heap.size + 1]? = some b ∧ (((w.alloc a).alloc b).alloc c).heap[w.heap.size + 1 + 1]? = some c := ⟨(three_blocks w a b c).1, (three_blocks w a b c).2.1, (three_blocks w a b c).2.2.1⟩
theorem enc_done {g : Gr} {w w1 : World} {b : ByteArray} (hok : encodeE g = .ok b) (hb : Below w.heap.size w w1) (hp : w1.heap[w.heap.size + 1]? = some (.cells #[.string b] 9 (0, 0))) (hq : w1.heap[w.heap.size + 1 + 1]? = some (.cells #[.int .i64 0] 26 (0, 0)))
    (a : Act) (h2 : a.tmps.getD 2 undef = .pointer (some ⟨w.heap.size + 1, 0, none⟩)) (h3 : a.tmps.getD 3 undef = .pointer (some ⟨w.heap.size + 1 + 1, 0, none⟩)) (hd : a.defers = encDefers w) :
    bodyPostD Try.prog Try.f13 (EncIs g w) .ret a w1 := by
  show Leaves Try.prog Try.f13 a.tmps (EncIs g w) a.defers .returning w1
  rw [hd]
  refine leaves_cons (f := 31) (args := #[.pointer (some ⟨w.heap.size + 1, 0, none⟩), .pointer (some ⟨w.heap.size + 1 + 1, 0, none⟩)]) (by simp) (by simp [go_sem]) ?_
  refine (ecatch_idle _ _ _).mono ?_
  rintro e u' w'' ⟨rfl, rfl, rfl⟩
  have p0 : w''.cell? ⟨w.heap.size + 1, 0, none⟩ = some (.string b) := cell_of_row _ _ 0 _ 9 (0, 0) hp
  have q0 : w''.cell? ⟨w.heap.size + 1 + 1, 0, none⟩ = some (.int .i64 0) := cell_of_row _ _ 0 _ 26 (0, 0) hq
  clear hp hq
  rw [Array.getD_eq_getD_getElem?] at h2 h3
  simp [Leaves, settle, results, Try.results13, go_sem, p0, q0, h2, h3]
  exact ⟨by unfold encS encErr; rw [hok], hb⟩
set_option maxRecDepth 100000 in
set_option maxHeartbeats 6400000 in
theorem encode_any (g : Gr) (w : World) (Z : Nat → Prop) (An Ai Ao At_ : Option Addr) (nn cn ni ci no co nt ct : Nat) (hn : Slc repNd w Z An nn g.nodes) (hi : Slc repVl w Z Ai ni g.ins) (ho : Slc repVl w Z Ao no g.outs) (ht : Slc repNm w Z At_ nt g.inits) (hZ : ∀ k, Z k → k < w.heap.size) (hsz : GrSz g) :
    Calls Try.prog 13 #[.agg #[.string g.name, .slice An nn cn, .slice Ai ni ci, .slice Ao no co, .slice At_ nt ct]] w (EncIs g w) := by
  have hmf : ∀ (fn : Fn) (first cap : Array Value) (w : World), (Instr.makeFunc fn first cap).run Try.prog w = .ok (.func fn first cap) w := fun _ _ _ _ => rfl
  have hb0 : Below w.heap.size w (((w.alloc (.cells #[.string g.name, .slice An nn cn, .slice Ai ni ci, .slice Ao no co, .slice At_ nt ct] 34)).alloc (.cells #[.string ⟨#[]⟩] 9)).alloc (.cells #[.int .i64 0] 26)) := (((Below.refl _ _).alloc (Nat.le_refl _) _).alloc (by simp) _).alloc (by simp; omega) _
  obtain ⟨hg0, hp0, hq0⟩ := three_blocks' w (.cells #[.string g.name, .slice An nn cn, .slice Ai ni ci, .slice Ao no co, .slice At_ nt ct] 34) (.cells #[.string ⟨#[]⟩] 9) (.cells #[.int .i64 0] 26)
  have hz0 : (((w.alloc (.cells #[.string g.name, .slice An nn cn, .slice Ai ni ci, .slice Ao no co, .slice At_ nt ct] 34)).alloc (.cells #[.string ⟨#[]⟩] 9)).alloc (.cells #[.int .i64 0] 26)).heap.size = w.heap.size + 3 := by simp
  have kp : ∀ k, Z k → (((w.alloc (.cells #[.string g.name, .slice An nn cn, .slice Ai ni ci, .slice Ao no co, .slice At_ nt ct] 34)).alloc (.cells #[.string ⟨#[]⟩] 9)).alloc (.cells #[.int .i64 0] 26)).heap[k]? = w.heap[k]? := fun k hk => hb0.block k (hZ k hk)
  have HTl := Lib.hid (told_any g (((w.alloc (.cells #[.string g.name, .slice An nn cn, .slice Ai ni ci, .slice Ao no co, .slice At_ nt ct] 34)).alloc (.cells #[.string ⟨#[]⟩] 9)).alloc (.cells #[.int .i64 0] 26)) Z An Ai Ao At_ nn cn ni ci no co nt ct (hn.keep kp fun _ h => h) (hi.keep kp fun _ h => h) (ho.keep kp fun _ h => h) (ht.keep kp fun _ h => h) (fun k hk => Nat.lt_of_lt_of_le (hZ k hk) hb0.size) hsz)
  have HB0 := Lib.hid hb0
  have HG0 := Lib.hid hg0
  have HP0 := Lib.hid hp0
  have HQ0 := Lib.hid hq0
  have HZ0 := Lib.hid hz0
  have Hn := Lib.hid hn
  have Hi := Lib.hid hi
  have Ho := Lib.hid ho
  have Ht := Lib.hid ht
  have HZ := Lib.hid hZ
  have Ln := Lib.hid hn.len
  have Li := Lib.hid hi.len
  have Lo := Lib.hid ho.len
  have Lt := Lib.hid ht.len
  have y0 : (((w.alloc (.cells #[.string g.name, .slice An nn cn, .slice Ai ni ci, .slice Ao no co, .slice At_ nt ct] 34)).alloc (.cells #[.string ⟨#[]⟩] 9)).alloc (.cells #[.int .i64 0] 26)).cell? ⟨w.heap.size, 0, none⟩ = some (.string g.name) := cell_of_row _ _ 0 _ 34 (0, 0) hg0
  have y1 : (((w.alloc (.cells #[.string g.name, .slice An nn cn, .slice Ai ni ci, .slice Ao no co, .slice At_ nt ct] 34)).alloc (.cells #[.string ⟨#[]⟩] 9)).alloc (.cells #[.int .i64 0] 26)).cell? ⟨w.heap.size, 1, none⟩ = some (.slice An nn cn) := cell_of_row _ _ 1 _ 34 (0, 0) hg0
  have y2 : (((w.alloc (.cells #[.string g.name, .slice An nn cn, .slice Ai ni ci, .slice Ao no co, .slice At_ nt ct] 34)).alloc (.cells #[.string ⟨#[]⟩] 9)).alloc (.cells #[.int .i64 0] 26)).cell? ⟨w.heap.size, 2, none⟩ = some (.slice Ai ni ci) := cell_of_row _ _ 2 _ 34 (0, 0) hg0
  have y3 : (((w.alloc (.cells #[.string g.name, .slice An nn cn, .slice Ai ni ci, .slice Ao no co, .slice At_ nt ct] 34)).alloc (.cells #[.string ⟨#[]⟩] 9)).alloc (.cells #[.int .i64 0] 26)).cell? ⟨w.heap.size, 3, none⟩ = some (.slice Ao no co) := cell_of_row _ _ 3 _ 34 (0, 0) hg0
  have y4 : (((w.alloc (.cells #[.string g.name, .slice An nn cn, .slice Ai ni ci, .slice Ao no co, .slice At_ nt ct] 34)).alloc (.cells #[.string ⟨#[]⟩] 9)).alloc (.cells #[.int .i64 0] 26)).cell? ⟨w.heap.size, 4, none⟩ = some (.slice At_ nt ct) := cell_of_row _ _ 4 _ 34 (0, 0) hg0
  clear hb0 hg0 hp0 hq0 hz0 hn hi ho ht hZ hsz kp
  go_enter_defers Try.func13, Try.ntmps13
  go_wp2_with fail
  generalize (((w.alloc (.cells #[.string g.name, .slice An nn cn, .slice Ai ni ci, .slice Ao no co, .slice At_ nt ct] 34)).alloc (.cells #[.string ⟨#[]⟩] 9)).alloc (.cells #[.int .i64 0] 26)) = w0 at HTl HB0 HG0 HP0 HQ0 HZ0 y0 y1 y2 y3 y4 ⊢
  refine HTl.out.mono ?_
  rintro e w1 ⟨rfl, hb1⟩
  have z1 : w.heap.size + 3 ≤ w1.heap.size := by have := hb1.size; rw [HZ0.out] at this; exact this
  have Hb1 := Lib.hid (HB0.out.trans (hb1.mono HB0.out.size))
  have HG1 := Lib.hid ((hb1.block w.heap.size (by rw [HZ0.out]; omega)).trans HG0.out)
  have HP1 := Lib.hid ((hb1.block (w.heap.size + 1) (by rw [HZ0.out]; omega)).trans HP0.out)
  have HQ1 := Lib.hid ((hb1.block (w.heap.size + 1 + 1) (by rw [HZ0.out]; omega)).trans HQ0.out)
  clear hb1 y0 y1 y2 y3 y4
  cases htl : toldB g with
  | false =>
    have Hno := Lib.hid (show encodeE g = .error 1 by unfold encodeE; rw [htl]; rfl)
    clear htl
    go_wp2_with fail
    refine (must_no _ _).mono ?_
    rintro e w3 ⟨rfl, rfl⟩
    go_wp2
    exact enc_caught Hno.out Hb1.out HP1.out HQ1.out _ rfl rfl rfl
  | true =>
    have Htl := Lib.hid htl
    have HK := Lib.hid (told_keeps htl)
    have k1 := (told_keeps htl).nodes
    have k2 := (told_keeps htl).sum
    have k3 := (told_keeps htl).outs
    rw [Ln.out] at k1
    rw [Ln.out, Li.out, Lt.out] at k2
    rw [Lo.out] at k3
    clear htl
    go_wp2_with fail
    refine (must_yes _ _).mono ?_
    rintro e w3 ⟨rfl, rfl⟩
    have hbm : Below w1.heap.size w1 (w1.alloc (.cells #[.slice none 0 0] 76)) := (Below.refl _ _).alloc (Nat.le_refl _) _
    have HM0 := Lib.hid (Msg.begun w1)
    have HB2 := Lib.hid (Hb1.out.trans (hbm.mono Hb1.out.size))
    have hg2 := (hbm.block w.heap.size (by omega)).trans HG1.out
    have HG2 := Lib.hid hg2
    have HP2 := Lib.hid ((hbm.block (w.heap.size + 1) (by omega)).trans HP1.out)
    have HQ2 := Lib.hid ((hbm.block (w.heap.size + 1 + 1) (by omega)).trans HQ1.out)
    have z2 : (w1.alloc (.cells #[.slice none 0 0] 76)).heap.size = w1.heap.size + 1 := by simp
    have y1 : (w1.alloc (.cells #[.slice none 0 0] 76)).cell? ⟨w.heap.size, 1, none⟩ = some (.slice An nn cn) := cell_of_row _ _ 1 _ 34 (0, 0) hg2
    clear hbm hg2
    go_wp2_with fail
    generalize hw2 : w1.alloc (.cells #[.slice none 0 0] 76) = w2 at HM0 HB2 HG2 HP2 HQ2 z2 y1 ⊢
    clear hw2
    generalize hgm : w1.heap.size = gm at HM0 z1 z2 ⊢
    clear hgm
    go_loopw [6, 24] (fun u i wr => ∃ k : Nat, k ≤ nn ∧ i = .int .i64 k ∧ ∃ m, mapE nodeB 1 (g.nodes.take k) = .ok m ∧ Msg w2 gm wr m) (fun _ i _ => nn - (intOf i).toNat)
    case atStart => exact ⟨0, by omega, rfl, [], rfl, HM0.out⟩
    case round =>
      obtain ⟨k, hk, rfl, m, hmm, hmsg⟩ := hrel
      have Hm := Lib.hid hmm
      have HM := Lib.hid hmsg
      have hml := mapE_len hmm
      simp only [List.length_take, Ln.out] at hml
      have zrr := hmsg.only.size
      have Hbwr := Lib.hid (hmsg.belowOf HB2.out (by omega) (by omega))
      have hgr := (hmsg.cell (k := w.heap.size) (by omega) (by omega)).trans HG2.out
      have HGr := Lib.hid hgr
      have HPr := Lib.hid ((hmsg.cell (k := w.heap.size + 1) (by omega) (by omega)).trans HP2.out)
      have HQr := Lib.hid ((hmsg.cell (k := w.heap.size + 1 + 1) (by omega) (by omega)).trans HQ2.out)
      clear hmm hmsg
      by_cases hlt : k < nn
      · obtain ⟨bd, od, x, cs, hA, hbZ, hs, hR, hc⟩ := Hn.out.get hlt
        obtain ⟨d, e, rfl, h3, h4⟩ := hR
        obtain ⟨A1, n1, c1, rfl, h3⟩ := h3
        obtain ⟨A2, n2, c2, rfl, h4⟩ := h4
        have x0 : wr.cell? ⟨bd, od + k * 5, none⟩ = some (.string x.op) := (Hbwr.out.cell (p := ⟨bd, od + k * 5, none⟩) (by exact HZ.out _ hbZ)).trans (hc 0 (by decide))
        have x1 : wr.cell? ⟨bd, od + k * 5 + 1, none⟩ = some (.string x.name) := (Hbwr.out.cell (p := ⟨bd, od + k * 5 + 1, none⟩) (by exact HZ.out _ hbZ)).trans (hc 1 (by decide))
        have x2 : wr.cell? ⟨bd, od + k * 5 + 2, none⟩ = some (.slice A1 n1 c1) := (Hbwr.out.cell (p := ⟨bd, od + k * 5 + 2, none⟩) (by exact HZ.out _ hbZ)).trans (hc 2 (by decide))
        have x3 : wr.cell? ⟨bd, od + k * 5 + 3, none⟩ = some (.string x.out) := (Hbwr.out.cell (p := ⟨bd, od + k * 5 + 3, none⟩) (by exact HZ.out _ hbZ)).trans (hc 3 (by decide))
        have x4 : wr.cell? ⟨bd, od + k * 5 + 4, none⟩ = some (.slice A2 n2 c2) := (Hbwr.out.cell (p := ⟨bd, od + k * 5 + 4, none⟩) (by exact HZ.out _ hbZ)).trans (hc 4 (by decide))
        subst hA
        have hbt : Below wr.heap.size wr (wr.alloc (.cells #[.string x.op, .string x.name, .slice A1 n1 c1, .string x.out, .slice A2 n2 c2] 67)) := (Below.refl _ _).alloc (Nat.le_refl _) _
        have hbt2 := Hbwr.out.trans (hbt.mono Hbwr.out.size)
        have kp : ∀ k, Z k → (wr.alloc (.cells #[.string x.op, .string x.name, .slice A1 n1 c1, .string x.out, .slice A2 n2 c2] 67)).heap[k]? = w.heap[k]? := fun k hk => hbt2.block k (HZ.out k hk)
        have HC := Lib.hid (wnode_any x (wr.alloc (.cells #[.string x.op, .string x.name, .slice A1 n1 c1, .string x.out, .slice A2 n2 c2] 67)) Z A1 A2 n1 c1 n2 c2 (h3.keep kp fun _ h => h) (h4.keep kp fun _ h => h) (fun k hk => Nat.lt_of_lt_of_le (HZ.out k hk) hbt2.size) (HK.out.node x (List.mem_of_getElem? hs)))
        have HMt := Lib.hid (HM.out.below hbt)
        have Hbt := Lib.hid hbt2
        have HPt := Lib.hid ((hbt.block (w.heap.size + 1) (by omega)).trans HPr.out)
        have HQt := Lib.hid ((hbt.block (w.heap.size + 1 + 1) (by omega)).trans HQr.out)
        have zt : wr.heap.size ≤ (wr.alloc (.cells #[.string x.op, .string x.name, .slice A1 n1 c1, .string x.out, .slice A2 n2 c2] 67)).heap.size := hbt.size
        have hs' : g.nodes[k]? = some x := hs
        have Hs := Lib.hid hs'
        have hlen : (m).length ≤ 16777216 := by first | omega | (simp; omega)
        clear hc hs hs' h3 h4 hbt hbt2 kp hgr
        go_wp2_with fail
        refine HC.out.mono ?_
        rintro e w5 ⟨hb5, ⟨b, hb, rfl⟩ | ⟨err, hb, rfl⟩⟩
        · have HV5 := Lib.hid (mtext (HMt.out.below hb5) hlen 1 b)
          have Hmb := Lib.hid (mapE_take (g := nodeB) Hm.out Hs.out hb)
          clear hb5 hb hlen
          go_wp2_with fail
          refine HV5.out.mono ?_
          rintro e w6 ⟨rfl, hm6⟩
          have HM6 := Lib.hid (show Msg w2 gm w6 (m ++ [⟨1, 2, 0, b⟩]) by exact hm6)
          clear hm6
          go_wp2
          go_roundw
          case rel => exact ⟨k + 1, by omega, by go_num, _, Hmb.out, HM6.out⟩
          case measure => simp [intOf]; omega
        · have HP5 := Lib.hid ((hb5.block (w.heap.size + 1) (by omega)).trans HPt.out)
          have HQ5 := Lib.hid ((hb5.block (w.heap.size + 1 + 1) (by omega)).trans HQt.out)
          have Hb5 := Lib.hid (Hbt.out.trans (hb5.mono Hbt.out.size))
          have Hno := Lib.hid (enc_bad1 Htl.out (graph_bad1 (mapE_bad (g := nodeB) Hm.out Hs.out hb)))
          clear hb5 hb
          go_wp2
          exact enc_caught Hno.out Hb5.out HP5.out HQ5.out _ rfl rfl rfl
      · have hall : mapE nodeB 1 g.nodes = .ok m := by have := Hm.out; rwa [show k = g.nodes.length by rw [Ln.out]; omega, List.take_length] at this
        have H1 := Lib.hid hall
        have y0 : wr.cell? ⟨w.heap.size, 0, none⟩ = some (.string g.name) := cell_of_row _ _ 0 _ 34 (0, 0) hgr
        have HV := Lib.hid (mtext HM.out (by omega) 2 g.name)
        have l1 : m.length = k := by omega
        generalize hm1 : m = m1 at HM H1 HV l1
        clear hm1 hall hgr Hm hml
        go_wp2_with fail
        refine HV.out.mono ?_
        rintro e w3 ⟨rfl, hm3⟩
        have HM3 := Lib.hid (show Msg w2 gm w3 ((m1 ++ [⟨2, 2, 0, g.name⟩]) ++ []) by rw [List.append_nil]; exact hm3)
        have zr3 := hm3.only.size
        have hg3 := (hm3.cell (k := w.heap.size) (by omega) (by omega)).trans HG2.out
        have y4 : w3.cell? ⟨w.heap.size, 4, none⟩ = some (.slice At_ nt ct) := cell_of_row _ _ 4 _ 34 (0, 0) hg3
        have hpl : (m1 ++ [Fd.mk 2 2 0 g.name]).length ≤ 1001 := by simp; omega
        generalize hpre : m1 ++ [Fd.mk 2 2 0 g.name] = pre at HM3 hpl
        have Hpre := Lib.hid hpre
        clear hm3 hg3 hpre y1
        go_wp2_with fail
        go_loopw [8, 40] (fun u i wr => ∃ k : Nat, k ≤ nt ∧ i = .int .i64 k ∧ ∃ m, mapE initB 5 (g.inits.take k) = .ok m ∧ Msg w2 gm wr (pre ++ m)) (fun _ i _ => nt - (intOf i).toNat)
        case atStart => exact ⟨0, by omega, rfl, [], rfl, HM3.out⟩
        case round =>
          obtain ⟨k, hk, rfl, m, hmm, hmsg⟩ := hrel
          have Hm := Lib.hid hmm
          have HM := Lib.hid hmsg
          have hml := mapE_len hmm
          simp only [List.length_take, Lt.out] at hml
          have zrr := hmsg.only.size
          have Hbwr := Lib.hid (hmsg.belowOf HB2.out (by omega) (by omega))
          have hgr := (hmsg.cell (k := w.heap.size) (by omega) (by omega)).trans HG2.out
          have HGr := Lib.hid hgr
          have HPr := Lib.hid ((hmsg.cell (k := w.heap.size + 1) (by omega) (by omega)).trans HP2.out)
          have HQr := Lib.hid ((hmsg.cell (k := w.heap.size + 1 + 1) (by omega) (by omega)).trans HQ2.out)
          clear hmm hmsg
          by_cases hlt : k < nt
          · obtain ⟨bd, od, x, cs, hA, hbZ, hs, hR, hc⟩ := Ht.out.get hlt
            obtain ⟨d, e, rfl, h3, h4⟩ := hR
            obtain ⟨A1, n1, c1, rfl, h3⟩ := h3
            obtain ⟨A2, n2, c2, rfl, h4⟩ := h4
            have x0 : wr.cell? ⟨bd, od + k * 4, none⟩ = some (.string x.name) := (Hbwr.out.cell (p := ⟨bd, od + k * 4, none⟩) (by exact HZ.out _ hbZ)).trans (hc 0 (by decide))
            have x1 : wr.cell? ⟨bd, od + k * 4 + 1, none⟩ = some (.int .i64 x.t.typ) := (Hbwr.out.cell (p := ⟨bd, od + k * 4 + 1, none⟩) (by exact HZ.out _ hbZ)).trans (hc 1 (by decide))
            have x2 : wr.cell? ⟨bd, od + k * 4 + 2, none⟩ = some (.slice A1 n1 c1) := (Hbwr.out.cell (p := ⟨bd, od + k * 4 + 2, none⟩) (by exact HZ.out _ hbZ)).trans (hc 2 (by decide))
            have x3 : wr.cell? ⟨bd, od + k * 4 + 3, none⟩ = some (.slice A2 n2 c2) := (Hbwr.out.cell (p := ⟨bd, od + k * 4 + 3, none⟩) (by exact HZ.out _ hbZ)).trans (hc 3 (by decide))
            subst hA
            have hbt : Below wr.heap.size wr (wr.alloc (.cells #[.string x.name, .int .i64 x.t.typ, .slice A1 n1 c1, .slice A2 n2 c2] 69)) := (Below.refl _ _).alloc (Nat.le_refl _) _
            have hbt2 := Hbwr.out.trans (hbt.mono Hbwr.out.size)
            have kp : ∀ k, Z k → (wr.alloc (.cells #[.string x.name, .int .i64 x.t.typ, .slice A1 n1 c1, .slice A2 n2 c2] 69)).heap[k]? = w.heap[k]? := fun k hk => hbt2.block k (HZ.out k hk)
            have HC := Lib.hid (wtensor_any x.name x.t (wr.alloc (.cells #[.string x.name, .int .i64 x.t.typ, .slice A1 n1 c1, .slice A2 n2 c2] 69)) w.heap.size A1 A2 n1 c1 n2 c2 ((slc_ints h3 HZ.out).below hbt2 (Nat.le_refl _)) ((slc_ints h4 HZ.out).below hbt2 (Nat.le_refl _)) hbt2.size (by have := (HK.out.init x (List.mem_of_getElem? hs)).1; omega) (HK.out.init x (List.mem_of_getElem? hs)).2.1 (HK.out.init x (List.mem_of_getElem? hs)).2.2)
            have HMt := Lib.hid (HM.out.below hbt)
            have Hbt := Lib.hid hbt2
            have HPt := Lib.hid ((hbt.block (w.heap.size + 1) (by omega)).trans HPr.out)
            have HQt := Lib.hid ((hbt.block (w.heap.size + 1 + 1) (by omega)).trans HQr.out)
            have zt : wr.heap.size ≤ (wr.alloc (.cells #[.string x.name, .int .i64 x.t.typ, .slice A1 n1 c1, .slice A2 n2 c2] 69)).heap.size := hbt.size
            have hs' : g.inits[k]? = some x := hs
            have Hs := Lib.hid hs'
            have hlen : ((pre ++ m)).length ≤ 16777216 := by first | omega | (simp; omega)
            clear hc hs hs' h3 h4 hbt hbt2 kp hgr
            go_wp2_with fail
            refine HC.out.mono ?_
            rintro e w5 ⟨hb5, ⟨b, hb, rfl⟩ | ⟨err, hb, rfl⟩⟩
            · have HV5 := Lib.hid (mtext (HMt.out.below hb5) hlen 5 b)
              have Hmb := Lib.hid (mapE_take (g := initB) Hm.out Hs.out hb)
              clear hb5 hb hlen
              go_wp2_with fail
              refine HV5.out.mono ?_
              rintro e w6 ⟨rfl, hm6⟩
              have HM6 := Lib.hid (show Msg w2 gm w6 (pre ++ (m ++ [⟨5, 2, 0, b⟩])) by rw [← List.append_assoc]; exact hm6)
              clear hm6
              go_wp2
              go_roundw
              case rel => exact ⟨k + 1, by omega, by go_num, _, Hmb.out, HM6.out⟩
              case measure => simp [intOf]; omega
            · have HP5 := Lib.hid ((hb5.block (w.heap.size + 1) (by omega)).trans HPt.out)
              have HQ5 := Lib.hid ((hb5.block (w.heap.size + 1 + 1) (by omega)).trans HQt.out)
              have Hb5 := Lib.hid (Hbt.out.trans (hb5.mono Hbt.out.size))
              have Hno := Lib.hid (enc_bad1 Htl.out (graph_bad2 H1.out (mapE_bad (g := initB) Hm.out Hs.out hb)))
              clear hb5 hb
              go_wp2
              exact enc_caught Hno.out Hb5.out HP5.out HQ5.out _ rfl rfl rfl
          · have hall : mapE initB 5 g.inits = .ok m := by have := Hm.out; rwa [show k = g.inits.length by rw [Lt.out]; omega, List.take_length] at this
            have H2 := Lib.hid hall
            have y2 : wr.cell? ⟨w.heap.size, 2, none⟩ = some (.slice Ai ni ci) := cell_of_row _ _ 2 _ 34 (0, 0) hgr
            have hpl2 : (pre ++ m).length ≤ 4001 := by simp; omega
            generalize hm2 : m = m2 at HM H2 hpl2
            generalize hpre2 : pre ++ m2 = pre2 at HM hpl2
            have Hpre2 := Lib.hid hpre2
            have HM4 := Lib.hid (show Msg w2 gm wr (pre2 ++ []) by rw [List.append_nil]; exact HM.out)
            clear hm2 hall hgr Hm hml hpre2 y0 y4
            go_wp2_with fail
            go_loopw [10, 55] (fun u i wr => ∃ k : Nat, k ≤ ni ∧ i = .int .i64 k ∧ ∃ m, mapE valueB 11 (g.ins.take k) = .ok m ∧ Msg w2 gm wr (pre2 ++ m)) (fun _ i _ => ni - (intOf i).toNat)
            case atStart => exact ⟨0, by omega, rfl, [], rfl, HM4.out⟩
            case round =>
              obtain ⟨k, hk, rfl, m, hmm, hmsg⟩ := hrel
              have Hm := Lib.hid hmm
              have HM := Lib.hid hmsg
              have hml := mapE_len hmm
              simp only [List.length_take, Li.out] at hml
              have zrr := hmsg.only.size
              have Hbwr := Lib.hid (hmsg.belowOf HB2.out (by omega) (by omega))
              have hgr := (hmsg.cell (k := w.heap.size) (by omega) (by omega)).trans HG2.out
              have HGr := Lib.hid hgr
              have HPr := Lib.hid ((hmsg.cell (k := w.heap.size + 1) (by omega) (by omega)).trans HP2.out)
              have HQr := Lib.hid ((hmsg.cell (k := w.heap.size + 1 + 1) (by omega) (by omega)).trans HQ2.out)
              clear hmm hmsg
              by_cases hlt : k < ni
              · obtain ⟨bd, od, x, cs, hA, hbZ, hs, hR, hc⟩ := Hi.out.get hlt
                obtain ⟨d, rfl, h3⟩ := hR
                obtain ⟨A1, n1, c1, rfl, h3⟩ := h3
                have x0 : wr.cell? ⟨bd, od + k * 3, none⟩ = some (.string x.name) := (Hbwr.out.cell (p := ⟨bd, od + k * 3, none⟩) (by exact HZ.out _ hbZ)).trans (hc 0 (by decide))
                have x1 : wr.cell? ⟨bd, od + k * 3 + 1, none⟩ = some (.int .i64 x.typ) := (Hbwr.out.cell (p := ⟨bd, od + k * 3 + 1, none⟩) (by exact HZ.out _ hbZ)).trans (hc 1 (by decide))
                have x2 : wr.cell? ⟨bd, od + k * 3 + 2, none⟩ = some (.slice A1 n1 c1) := (Hbwr.out.cell (p := ⟨bd, od + k * 3 + 2, none⟩) (by exact HZ.out _ hbZ)).trans (hc 2 (by decide))
                subst hA
                have hbt : Below wr.heap.size wr (wr.alloc (.cells #[.string x.name, .int .i64 x.typ, .slice A1 n1 c1] 81)) := (Below.refl _ _).alloc (Nat.le_refl _) _
                have hbt2 := Hbwr.out.trans (hbt.mono Hbwr.out.size)
                have kp : ∀ k, Z k → (wr.alloc (.cells #[.string x.name, .int .i64 x.typ, .slice A1 n1 c1] 81)).heap[k]? = w.heap[k]? := fun k hk => hbt2.block k (HZ.out k hk)
                have HC := Lib.hid (wvalue_any x (wr.alloc (.cells #[.string x.name, .int .i64 x.typ, .slice A1 n1 c1] 81)) w.heap.size A1 n1 c1 ((slc_ints h3 HZ.out).below hbt2 (Nat.le_refl _)) hbt2.size (HK.out.inp x (List.mem_of_getElem? hs)))
                have HMt := Lib.hid (HM.out.below hbt)
                have Hbt := Lib.hid hbt2
                have HPt := Lib.hid ((hbt.block (w.heap.size + 1) (by omega)).trans HPr.out)
                have HQt := Lib.hid ((hbt.block (w.heap.size + 1 + 1) (by omega)).trans HQr.out)
                have zt : wr.heap.size ≤ (wr.alloc (.cells #[.string x.name, .int .i64 x.typ, .slice A1 n1 c1] 81)).heap.size := hbt.size
                have hs' : g.ins[k]? = some x := hs
                have Hs := Lib.hid hs'
                have hlen : ((pre2 ++ m)).length ≤ 16777216 := by first | omega | (simp; omega)
                clear hc hs hs' h3 hbt hbt2 kp hgr
                go_wp2_with fail
                refine HC.out.mono ?_
                rintro e w5 ⟨hb5, ⟨b, hb, rfl⟩ | ⟨err, hb, rfl⟩⟩
                · have HV5 := Lib.hid (mtext (HMt.out.below hb5) hlen 11 b)
                  have Hmb := Lib.hid (mapE_take (g := valueB) Hm.out Hs.out hb)
                  clear hb5 hb hlen
                  go_wp2_with fail
                  refine HV5.out.mono ?_
                  rintro e w6 ⟨rfl, hm6⟩
                  have HM6 := Lib.hid (show Msg w2 gm w6 (pre2 ++ (m ++ [⟨11, 2, 0, b⟩])) by rw [← List.append_assoc]; exact hm6)
                  clear hm6
                  go_wp2
                  go_roundw
                  case rel => exact ⟨k + 1, by omega, by go_num, _, Hmb.out, HM6.out⟩
                  case measure => simp [intOf]; omega
                · have HP5 := Lib.hid ((hb5.block (w.heap.size + 1) (by omega)).trans HPt.out)
                  have HQ5 := Lib.hid ((hb5.block (w.heap.size + 1 + 1) (by omega)).trans HQt.out)
                  have Hb5 := Lib.hid (Hbt.out.trans (hb5.mono Hbt.out.size))
                  have Hno := Lib.hid (enc_bad1 Htl.out (graph_bad3 H1.out H2.out (mapE_bad (g := valueB) Hm.out Hs.out hb)))
                  clear hb5 hb
                  go_wp2
                  exact enc_caught Hno.out Hb5.out HP5.out HQ5.out _ rfl rfl rfl
              · have hall : mapE valueB 11 g.ins = .ok m := by have := Hm.out; rwa [show k = g.ins.length by rw [Li.out]; omega, List.take_length] at this
                have H3 := Lib.hid hall
                have y3 : wr.cell? ⟨w.heap.size, 3, none⟩ = some (.slice Ao no co) := cell_of_row _ _ 3 _ 34 (0, 0) hgr
                have hpl3 : (pre2 ++ m).length ≤ 7001 := by simp; omega
                generalize hm3 : m = m3 at HM H3 hpl3
                generalize hpre3 : pre2 ++ m3 = pre3 at HM hpl3
                have Hpre3 := Lib.hid hpre3
                have HM5 := Lib.hid (show Msg w2 gm wr (pre3 ++ []) by rw [List.append_nil]; exact HM.out)
                clear hm3 hall hgr Hm hml hpre3 y2
                go_wp2_with fail
                go_loopw [12, 67] (fun u i wr => ∃ k : Nat, k ≤ no ∧ i = .int .i64 k ∧ ∃ m, mapE valueB 12 (g.outs.take k) = .ok m ∧ Msg w2 gm wr (pre3 ++ m)) (fun _ i _ => no - (intOf i).toNat)
                case atStart => exact ⟨0, by omega, rfl, [], rfl, HM5.out⟩
                case round =>
                  obtain ⟨k, hk, rfl, m, hmm, hmsg⟩ := hrel
                  have Hm := Lib.hid hmm
                  have HM := Lib.hid hmsg
                  have hml := mapE_len hmm
                  simp only [List.length_take, Lo.out] at hml
                  have zrr := hmsg.only.size
                  have Hbwr := Lib.hid (hmsg.belowOf HB2.out (by omega) (by omega))
                  have hgr := (hmsg.cell (k := w.heap.size) (by omega) (by omega)).trans HG2.out
                  have HGr := Lib.hid hgr
                  have HPr := Lib.hid ((hmsg.cell (k := w.heap.size + 1) (by omega) (by omega)).trans HP2.out)
                  have HQr := Lib.hid ((hmsg.cell (k := w.heap.size + 1 + 1) (by omega) (by omega)).trans HQ2.out)
                  clear hmm hmsg
                  by_cases hlt : k < no
                  · obtain ⟨bd, od, x, cs, hA, hbZ, hs, hR, hc⟩ := Ho.out.get hlt
                    obtain ⟨d, rfl, h3⟩ := hR
                    obtain ⟨A1, n1, c1, rfl, h3⟩ := h3
                    have x0 : wr.cell? ⟨bd, od + k * 3, none⟩ = some (.string x.name) := (Hbwr.out.cell (p := ⟨bd, od + k * 3, none⟩) (by exact HZ.out _ hbZ)).trans (hc 0 (by decide))
                    have x1 : wr.cell? ⟨bd, od + k * 3 + 1, none⟩ = some (.int .i64 x.typ) := (Hbwr.out.cell (p := ⟨bd, od + k * 3 + 1, none⟩) (by exact HZ.out _ hbZ)).trans (hc 1 (by decide))
                    have x2 : wr.cell? ⟨bd, od + k * 3 + 2, none⟩ = some (.slice A1 n1 c1) := (Hbwr.out.cell (p := ⟨bd, od + k * 3 + 2, none⟩) (by exact HZ.out _ hbZ)).trans (hc 2 (by decide))
                    subst hA
                    have hbt : Below wr.heap.size wr (wr.alloc (.cells #[.string x.name, .int .i64 x.typ, .slice A1 n1 c1] 81)) := (Below.refl _ _).alloc (Nat.le_refl _) _
                    have hbt2 := Hbwr.out.trans (hbt.mono Hbwr.out.size)
                    have kp : ∀ k, Z k → (wr.alloc (.cells #[.string x.name, .int .i64 x.typ, .slice A1 n1 c1] 81)).heap[k]? = w.heap[k]? := fun k hk => hbt2.block k (HZ.out k hk)
                    have HC := Lib.hid (wvalue_any x (wr.alloc (.cells #[.string x.name, .int .i64 x.typ, .slice A1 n1 c1] 81)) w.heap.size A1 n1 c1 ((slc_ints h3 HZ.out).below hbt2 (Nat.le_refl _)) hbt2.size (HK.out.out x (List.mem_of_getElem? hs)))
                    have HMt := Lib.hid (HM.out.below hbt)
                    have Hbt := Lib.hid hbt2
                    have HPt := Lib.hid ((hbt.block (w.heap.size + 1) (by omega)).trans HPr.out)
                    have HQt := Lib.hid ((hbt.block (w.heap.size + 1 + 1) (by omega)).trans HQr.out)
                    have zt : wr.heap.size ≤ (wr.alloc (.cells #[.string x.name, .int .i64 x.typ, .slice A1 n1 c1] 81)).heap.size := hbt.size
                    have hs' : g.outs[k]? = some x := hs
                    have Hs := Lib.hid hs'
                    have hlen : ((pre3 ++ m)).length ≤ 16777216 := by first | omega | (simp; omega)
                    clear hc hs hs' h3 hbt hbt2 kp hgr
                    go_wp2_with fail
                    refine HC.out.mono ?_
                    rintro e w5 ⟨hb5, ⟨b, hb, rfl⟩ | ⟨err, hb, rfl⟩⟩
                    · have HV5 := Lib.hid (mtext (HMt.out.below hb5) hlen 12 b)
                      have Hmb := Lib.hid (mapE_take (g := valueB) Hm.out Hs.out hb)
                      clear hb5 hb hlen
                      go_wp2_with fail
                      refine HV5.out.mono ?_
                      rintro e w6 ⟨rfl, hm6⟩
                      have HM6 := Lib.hid (show Msg w2 gm w6 (pre3 ++ (m ++ [⟨12, 2, 0, b⟩])) by rw [← List.append_assoc]; exact hm6)
                      clear hm6
                      go_wp2
                      go_roundw
                      case rel => exact ⟨k + 1, by omega, by go_num, _, Hmb.out, HM6.out⟩
                      case measure => simp [intOf]; omega
                    · have HP5 := Lib.hid ((hb5.block (w.heap.size + 1) (by omega)).trans HPt.out)
                      have HQ5 := Lib.hid ((hb5.block (w.heap.size + 1 + 1) (by omega)).trans HQt.out)
                      have Hb5 := Lib.hid (Hbt.out.trans (hb5.mono Hbt.out.size))
                      have Hno := Lib.hid (enc_bad1 Htl.out (graph_bad4 H1.out H2.out H3.out (mapE_bad (g := valueB) Hm.out Hs.out hb)))
                      clear hb5 hb
                      go_wp2
                      exact enc_caught Hno.out Hb5.out HP5.out HQ5.out _ rfl rfl rfl
                  · have hall : mapE valueB 12 g.outs = .ok m := by have := Hm.out; rwa [show k = g.outs.length by rw [Lo.out]; omega, List.take_length] at this
                    have H4 := Lib.hid hall
                    have hl4 : (pre3 ++ m) = (((m1 ++ [⟨2, 2, 0, g.name⟩]) ++ m2) ++ m3) ++ m := by rw [← Hpre3.out, ← Hpre2.out, ← Hpre.out]
                    have Hgf := Lib.hid (hl4 ▸ graph_good H1.out H2.out H3.out H4.out)
                    have Hfo := Lib.hid (hl4 ▸ graph_fds_ok HK.out H1.out H2.out H3.out H4.out)
                    generalize hfl : pre3 ++ m = fl at HM Hgf Hfo
                    have Hpl := Lib.hid (show encodeE g = (match bytE fl with | .error e => .error e | .ok b => modelB b) by unfold encodeE; rw [Htl.out, Hgf.out]; rfl)
                    clear hfl hl4 hall hgr Hm hml y3
                    have hbt : Below wr.heap.size wr ((wr.alloc (.cells #[.slice none 0 0] 76)).alloc (.cells #[.slice none 0 0] 76)) := ((Below.refl _ _).alloc (Nat.le_refl _) _).alloc (by simp) _
                    have t1 := (Below.heap_alloc (wr.alloc (.cells #[.slice none 0 0] 76)) (.cells #[.slice none 0 0] 76) wr.heap.size (by simp)).trans (heap_alloc_new wr (.cells #[.slice none 0 0] 76))
                    have t2 := heap_second wr (.cells #[.slice none 0 0] 76) (.cells #[.slice none 0 0] 76) (wr.heap.size + 1) rfl
                    have z4 : ((wr.alloc (.cells #[.slice none 0 0] 76)).alloc (.cells #[.slice none 0 0] 76)).heap.size = wr.heap.size + 2 := by simp
                    have HR4 := Lib.hid ((HM.out.below hbt).reads)
                    have Hb4 := Lib.hid (Hbwr.out.trans (hbt.mono Hbwr.out.size))
                    have HP4 := Lib.hid ((hbt.block (w.heap.size + 1) (by omega)).trans HPr.out)
                    have HQ4 := Lib.hid ((hbt.block (w.heap.size + 1 + 1) (by omega)).trans HQr.out)
                    have HT1 := Lib.hid t1
                    have HT2 := Lib.hid t2
                    have HV4 := Lib.hid (mvarint (Msg.start t1) (by simp) 2 13)
                    clear hbt t1 t2
                    go_wp2_with fail
                    generalize (wr.alloc (.cells #[.slice none 0 0] 76)).alloc (.cells #[.slice none 0 0] 76) = w4 at HR4 Hb4 HP4 HQ4 HT1 HT2 HV4 z4 ⊢
                    refine HV4.out.mono ?_
                    rintro e w5 ⟨rfl, hm5⟩
                    have hm5 : Msg w4 wr.heap.size w5 [⟨2, 0, 13, ⟨#[]⟩⟩] := hm5
                    have z5 := hm5.only.size
                    have HO5 := Lib.hid hm5.reads
                    have HR5 := Lib.hid (HR4.out.over hm5.only (by omega) ⟨_, HT1.out⟩)
                    have HT25 := Lib.hid ((hm5.cell (k := wr.heap.size + 1) (by omega) (by omega)).trans HT2.out)
                    have HP5 := Lib.hid ((hm5.cell (k := w.heap.size + 1) (by omega) (by omega)).trans HP4.out)
                    have HQ5 := Lib.hid ((hm5.cell (k := w.heap.size + 1 + 1) (by omega) (by omega)).trans HQ4.out)
                    have Hb5 := Lib.hid (Hb4.out.trans (hm5.only.below (by omega) (by omega)))
                    have HV5 := Lib.hid (mvarint (Msg.start HT25.out) (by simp) 1 8)
                    clear hm5
                    go_wp2_with fail
                    refine HV5.out.mono ?_
                    rintro e w6 ⟨rfl, hm6⟩
                    have hm6 : Msg w5 (wr.heap.size + 1) w6 [⟨1, 0, 8, ⟨#[]⟩⟩] := hm6
                    have z6 := hm6.only.size
                    have HM6 := Lib.hid hm6
                    have HO6 := Lib.hid (HO5.out.over hm6.only (by omega) ⟨_, HT25.out⟩)
                    have HR6 := Lib.hid (HR5.out.over hm6.only (by omega) ⟨_, HT25.out⟩)
                    have HP6 := Lib.hid ((hm6.cell (k := w.heap.size + 1) (by omega) (by omega)).trans HP5.out)
                    have HQ6 := Lib.hid ((hm6.cell (k := w.heap.size + 1 + 1) (by omega) (by omega)).trans HQ5.out)
                    have Hb6 := Lib.hid (Hb5.out.trans (hm6.only.below (by omega) (by omega)))
                    have HW6 := Lib.hid (wroteR HR6.out Hfo.out.1 Hfo.out.2)
                    clear hm6
                    go_wp2_with fail
                    refine HW6.out.mono ?_
                    rintro e w7 ⟨hb7, ⟨b, hb, rfl⟩ | ⟨err, hb, rfl⟩⟩
                    · have z7 := hb7.size
                      have hbs := (bytE_size hb).1
                      have Hpl2 := Lib.hid (show encodeE g = modelB b by rw [Hpl.out, hb])
                      have HO7 := Lib.hid (HO6.out.below hb7)
                      have HP7 := Lib.hid ((hb7.block (w.heap.size + 1) (by omega)).trans HP6.out)
                      have HQ7 := Lib.hid ((hb7.block (w.heap.size + 1 + 1) (by omega)).trans HQ6.out)
                      have Hb7 := Lib.hid (Hb6.out.trans (hb7.mono Hb6.out.size))
                      have HV7 := Lib.hid (mtext (HM6.out.below hb7) (by simp) 7 b)
                      have Hc7 := Lib.hid ((HM6.out.below hb7).at_)
                      clear hb hb7
                      go_wp2_with fail
                      refine HV7.out.mono ?_
                      rintro e w8 ⟨rfl, hm8⟩
                      have hm8 : Msg w5 (wr.heap.size + 1) w8 [⟨1, 0, 8, ⟨#[]⟩⟩, ⟨7, 2, 0, b⟩] := hm8
                      have z8 := hm8.only.size
                      have HM8 := Lib.hid hm8
                      have HO8 := Lib.hid (HO5.out.over hm8.only (by omega) ⟨_, HT25.out⟩)
                      have HP8 := Lib.hid ((hm8.cell (k := w.heap.size + 1) (by omega) (by omega)).trans HP5.out)
                      have HQ8 := Lib.hid ((hm8.cell (k := w.heap.size + 1 + 1) (by omega) (by omega)).trans HQ5.out)
                      have Hb8 := Lib.hid (Hb5.out.trans (hm8.only.below (by omega) (by omega)))
                      have HW8 := Lib.hid (wroteR HO8.out (fun f hf => by
                        simp only [List.mem_singleton] at hf
                        subst hf
                        exact fdOk_v 2 13 (by omega) (by omega)) (by simp only [bulk]; have h0 : (⟨#[]⟩ : ByteArray).size = 0 := rfl; omega))
                      clear hm8
                      go_wp2_with fail
                      refine HW8.out.mono ?_
                      rintro e w9 ⟨hb9, ⟨o, ho, rfl⟩ | ⟨err, ho, rfl⟩⟩
                      · have z9 := hb9.size
                        have hos := (bytE_size ho).1
                        have Hpl3 := Lib.hid (show encodeE g = bytE [⟨1, 0, 8, ⟨#[]⟩⟩, ⟨7, 2, 0, b⟩, ⟨8, 2, 0, o⟩] by rw [Hpl2.out]; unfold modelB; rw [ho])
                        have HV9 := Lib.hid (mtext (HM8.out.below hb9) (by simp) 8 o)
                        clear ho hb9
                        go_wp2_with fail
                        refine HV9.out.mono ?_
                        rintro e w10 ⟨rfl, hm10⟩
                        have hm10 : Msg w5 (wr.heap.size + 1) w10 [⟨1, 0, 8, ⟨#[]⟩⟩, ⟨7, 2, 0, b⟩, ⟨8, 2, 0, o⟩] := hm10
                        have z10 := hm10.only.size
                        have HP10 := Lib.hid ((hm10.cell (k := w.heap.size + 1) (by omega) (by omega)).trans HP5.out)
                        have HQ10 := Lib.hid ((hm10.cell (k := w.heap.size + 1 + 1) (by omega) (by omega)).trans HQ5.out)
                        have Hb10 := Lib.hid (Hb5.out.trans (hm10.only.below (by omega) (by omega)))
                        have HW10 := Lib.hid (wrote hm10 (fun f hf => by
                          simp only [List.mem_cons, List.not_mem_nil, or_false] at hf
                          rcases hf with rfl | rfl | rfl
                          · exact fdOk_v 1 8 (by omega) (by omega)
                          · exact fdOk_t 7 _ (by omega) (by omega) (by omega)
                          · exact fdOk_t 8 _ (by omega) (by omega) (by omega)) (by simp only [bulk]; have h0 : (⟨#[]⟩ : ByteArray).size = 0 := rfl; omega))
                        clear hm10
                        go_wp2_with fail
                        refine HW10.out.mono ?_
                        rintro e w11 ⟨hb11, ⟨r, hr, rfl⟩ | ⟨err, hr, rfl⟩⟩
                        · have hP11 := (hb11.block (w.heap.size + 1) (by omega)).trans HP10.out
                          have hQ11 := (hb11.block (w.heap.size + 1 + 1) (by omega)).trans HQ10.out
                          have HP11 := Lib.hid hP11
                          have HQ11 := Lib.hid hQ11
                          have Hb11 := Lib.hid (Hb10.out.trans (hb11.mono Hb10.out.size))
                          have Hok := Lib.hid (show encodeE g = .ok r by rw [Hpl3.out, hr])
                          have p0 : w11.cell? ⟨w.heap.size + 1, 0, none⟩ = some (.string ⟨#[]⟩) := cell_of_row _ _ 0 _ 9 (0, 0) hP11
                          have q0 : w11.cell? ⟨w.heap.size + 1 + 1, 0, none⟩ = some (.int .i64 0) := cell_of_row _ _ 0 _ 26 (0, 0) hQ11
                          have pf : w11.frozen? ⟨w.heap.size + 1, 0, none⟩ = false := by simp [World.frozen?, hP11]
                          have qf : w11.frozen? ⟨w.heap.size + 1 + 1, 0, none⟩ = false := by simp [World.frozen?, hQ11]
                          clear hr hb11 hP11 hQ11
                          go_wp2
                          refine enc_done Hok.out ((Hb11.out.setCell (by dsimp only; omega) _).setCell (by dsimp only; omega) _) ?_ ?_ _ rfl rfl rfl
                          · exact (Below.heap_setCell _ _ _ _ (by simp)).trans (one_set HP11.out _)
                          · exact one_set ((Below.heap_setCell _ _ _ _ (by simp)).trans HQ11.out) _
                        · have HP11 := Lib.hid ((hb11.block (w.heap.size + 1) (by omega)).trans HP10.out)
                          have HQ11 := Lib.hid ((hb11.block (w.heap.size + 1 + 1) (by omega)).trans HQ10.out)
                          have Hb11 := Lib.hid (Hb10.out.trans (hb11.mono Hb10.out.size))
                          have Hno := Lib.hid (show encodeE g = .error err by rw [Hpl3.out, hr])
                          clear hr hb11
                          go_wp2
                          exact enc_caught Hno.out Hb11.out HP11.out HQ11.out _ rfl rfl rfl
                      · have HP9 := Lib.hid ((hb9.block (w.heap.size + 1) (by omega)).trans HP8.out)
                        have HQ9 := Lib.hid ((hb9.block (w.heap.size + 1 + 1) (by omega)).trans HQ8.out)
                        have Hb9 := Lib.hid (Hb8.out.trans (hb9.mono Hb8.out.size))
                        have Hno := Lib.hid (show encodeE g = .error err by rw [Hpl2.out]; unfold modelB; rw [ho])
                        clear ho hb9
                        go_wp2
                        exact enc_caught Hno.out Hb9.out HP9.out HQ9.out _ rfl rfl rfl
                    · have HP7 := Lib.hid ((hb7.block (w.heap.size + 1) (by omega)).trans HP6.out)
                      have HQ7 := Lib.hid ((hb7.block (w.heap.size + 1 + 1) (by omega)).trans HQ6.out)
                      have Hb7 := Lib.hid (Hb6.out.trans (hb7.mono Hb6.out.size))
                      have Hno := Lib.hid (show encodeE g = .error err by rw [Hpl.out, hb])
                      clear hb hb7
                      go_wp2
                      exact enc_caught Hno.out Hb7.out HP7.out HQ7.out _ rfl rfl rfl
end Go.Proofs.Ytkcnpnnflbibiaa
