/-
  The walk of the code's search.
-/
import Derived.Test.YtnjipfnajgcibaaLifePlainB
import Derived.Test.YtnjipfnajgcibaaLifeF
import Derived.Test.YtnjipfnajgcibaaLifeH
import Derived.Deep.LoopGhost
namespace Go.Proofs.Ytnjipfnajgcibaa.lw
open Go.RowKit Go.Proofs.Ytnjipfnajgcibaa.ba Go.Proofs.Ytnjipfnajgcibaa.lp
set_option linter.unusedVariables false

theorem met_made (w : World) : Met (w.alloc (.map #[] 0)) w.heap.size 0 [] := ⟨_, World.ownsMap_made _ _ _ _, fun k _ _ => by simp [DataW.atKey]⟩

theorem wpList_ins {w : World} {ops : Array Oper} {rest : List Oper} {o : Oper} {a : Act} {Q : Exit → Act → World → Prop}
    (hg : o.guard = none) (m x v : Operand) (hop : o.op = Op.insert 49 m x v) (b n : Nat) (met : List Int) (hm : a.eval m = .map (some b)) (h : Met w b n met)
    (k : Int) (hx : a.eval x = .int .i64 k) (hv : a.eval v = .bool true) (h0 : 0 ≤ k) (h5 : k ≤ 5) (hn : n < 1000)
    (hK : ∀ w', Met w' b (n + 1) (k :: met) → w.grownBy w' (some b) → wpList Try.prog ops Q rest (a.put o.dst undef) w') : wpList Try.prog ops Q (o :: rest) a w := by
  refine wpList_plain hg fun K' hK' => ?_
  obtain ⟨w', hrun, r1, r2⟩ := run_put h k h0 h5 hn
  unfold Oper.wp
  simp [execOp, hop, hm, hx, hv, hrun, Result.andThen]
  exact hK' _ _ (hK w' r1 r2)

theorem wordF_in (s : Int) (h0 : 0 ≤ s) (h5 : s ≤ 5) : ((wordF s).toList == []) = false := by
  have hs : s = 0 ∨ s = 1 ∨ s = 2 ∨ s = 3 ∨ s = 4 ∨ s = 5 := by omega
  rcases hs with rfl | rfl | rfl | rfl | rfl | rfl <;> simp [wordF, ByteArray.toList_eq]

/-- The first of those that wait is taken. -/
theorem Rep.popped {B Bm Bw Mb : Nat} {w : World} {m : List Int} {r : Int × List Int} {q : List (Int × List Int)} {wv wv' : Value} {r0 : Int × Value × List Int} {rows : RowL} (h : Rep B Bm Bw Mb w (m, r :: q) wv (r0 :: rows)) (o : Obj)
    (hv : ownsAt w B 51 2 wv' rows.length (rowCells rows)) : Rep B Bm Bw Mb ((w.setCell ⟨Bw, 0, none⟩ wv').alloc o) (m, q) wv' rows := by
  have hg := grownBy_setCell' w Bw wv'
  have n1 : Bm ≠ Bw := fun e => by subst e; have a := h.m; have b := h.v; rw [a] at b; simp at b
  obtain ⟨es, clk, hmb⟩ := h.met.lt
  have n2 : Mb ≠ Bw := fun e => by subst e; have b := h.v; rw [hmb] at b; simp at b
  refine Rep.kept ?_ (World.grownBy_alloc _ o none)
  refine ⟨?_, h.met.kept hg (by simpa using n2), one_setCell h.v, hv.kept hg (at_ne hv h.v (by simp)), ?_, fun x hx => ?_⟩
  · rw [hg.block Bm (lt_of_block h.m) (by simpa using n1)]; exact h.m
  · have := h.same
    simp only [rowsOf, List.map_cons, List.cons.injEq] at this ⊢
    exact this.2
  · have hh := h.held x (List.mem_cons_of_mem _ hx)
    exact hh.kept hg (held_row hh h.v (by simp))

theorem rep_made {B : Nat} {w1 W2 : World} {frm : Int} (hB : B ≤ w1.heap.size) (hm : Met W2 w1.heap.size (0 + 1) [frm]) (hg : (w1.alloc (.map #[] 0)).grownBy W2 (some w1.heap.size)) :
    Rep B W2.heap.size (W2.heap.size + 1 + 1) w1.heap.size (((W2.alloc (.cells #[.map (some w1.heap.size)] 49)).alloc (.cells #[.int .i64 frm, .slice none 0 0] 51)).alloc (.cells #[.slice (some ⟨W2.heap.size + 1, 0, none⟩) 1 1] 52))
      (atF frm 0) (.slice (some ⟨W2.heap.size + 1, 0, none⟩) 1 1) [(frm, .slice none 0 0, [])] := by
  have hz := hg.size
  simp at hz
  have hw : ((W2.alloc (.cells #[.map (some w1.heap.size)] 49)).alloc (.cells #[.int .i64 frm, .slice none 0 0] 51)).heap.size = W2.heap.size + 1 + 1 := by simp
  have hw1 : (W2.alloc (.cells #[.map (some w1.heap.size)] 49)).heap.size = W2.heap.size + 1 := by simp
  refine ⟨?_, ((hm.kept (World.grownBy_alloc W2 _ none) (by simp)).kept (World.grownBy_alloc _ _ none) (by simp)).kept (World.grownBy_alloc _ _ none) (by simp), ?_, ?_, rfl, ?_⟩
  · rw [Below.heap_alloc _ _ _ (by rw [hw]; omega), Below.heap_alloc _ _ _ (by rw [hw1]; omega)]
    exact heap_alloc_new W2 _
  · have := heap_alloc_new ((W2.alloc (.cells #[.map (some w1.heap.size)] 49)).alloc (.cells #[.int .i64 frm, .slice none 0 0] 51)) (.cells #[.slice (some ⟨W2.heap.size + 1, 0, none⟩) 1 1] 52)
    rw [hw] at this
    exact this
  · have := World.ownsRow_lit (base := B) (e := 51) (size := 2) (W2.alloc (.cells #[.map (some w1.heap.size)] 49)) #[.int .i64 frm, .slice none 0 0] 1 (by rw [hw1]; omega) (by unfold maxLen; omega) rfl
    rw [hw1] at this
    exact (ownsAt.of_row this).alloc _
  · intro r hr
    rw [List.mem_singleton.1 hr]
    exact World.ownsRow_nil _ _ _ _

/-- What the code's search hands back. -/
def pathR (frm to : Int) : List Int × Bool := if frm < 0 ∨ 5 < frm ∨ to < 0 ∨ 5 < to then ([], false) else pathF frm to

set_option maxHeartbeats 1000000 in
theorem path_in (frm to : Int) (h0 : 0 ≤ frm) (h5 : frm ≤ 5) (t0 : 0 ≤ to) (t5 : to ≤ 5) (w : World) : Calls Try.prog 15 #[.int .i64 frm, .int .i64 to] w fun x w' => RowOut w w' (pathF frm to) x := by
  have hw1 := wordF_in frm h0 h5
  have hw2 := wordF_in to t0 t5
  have hbel : Below w.heap.size w w := Below.refl _ _
  have hmm := @run_makeMap Try.prog
  have hmf : ∀ (fn : Fn) (first cap : Array Value) (w : World), (Instr.makeFunc fn first cap).run Try.prog w = .ok (.func fn first cap) w := fun _ _ _ _ => rfl
  go_enter Try.func15, Try.ntmps15
  go_wp2_with fail
  go_step3
  go_wp2_with (first
    | (go_at_call 20; refine (word_any _ _).mono ?_; rintro x W1 ⟨rfl, hb1⟩; replace hbel := bthen hbel hb1; clear hb1)
    | (refine wpList_ins rfl _ _ _ rfl _ _ _ rfl (met_made _) _ rfl rfl h0 h5 (by omega) ?_; intro W2 hm2 hg2))
  have hB : w.heap.size ≤ W1.heap.size := hbel.size
  have hz2 := hg2.size
  simp at hz2
  have hR := rep_made hB hm2 hg2
  have hb2 : Below w.heap.size w (((W2.alloc (.cells #[.map (some W1.heap.size)] 49)).alloc (.cells #[.int .i64 frm, .slice none 0 0] 51)).alloc (.cells #[.slice (some ⟨W2.heap.size + 1, 0, none⟩) 1 1] 52)) :=
    ((((hbel.alloc hB (.map #[] 0)).grown hg2 (by simp; omega) (fun j hj => by cases hj; exact hB)).alloc (by omega) _).alloc (by simp; omega) _).alloc (by simp; omega) _
  clear hm2 hg2 hbel
  have HR := Lib.hid (And.intro hR hb2)
  clear hR hb2
  go_step3
  go_wp2_with fail
  go_loopg [9, 10] 6 (fun g o f wr => ∃ (k : Nat) (wv : Value) (rows : RowL), k + g = 6 ∧ o = .slice none 0 0 ∧ f = .bool false ∧ Hid (pathF frm to = findF frm to k (7 - k)) ∧ Rep w.heap.size W2.heap.size (W2.heap.size + 1 + 1) W1.heap.size wr (atF frm k) wv rows ∧ Below w.heap.size w wr)
  case atStart => exact ⟨0, _, _, rfl, rfl, rfl, rfl, HR.out.1, HR.out.2⟩
  case round =>
    obtain ⟨k, wv, rows, hkg, rfl, rfl, hpath, hR, hbel⟩ := hrel
    obtain ⟨z1, z2, z3⟩ := at_sizes frm h0 h5 k (by omega)
    have hcv := cell_of_one hR.v
    have hfv := free_of_one hR.v
    cases rows with
    | nil =>
      have hs := Lib.hid (findF_nil frm to k (by omega) (by rw [← hR.same]; rfl))
      obtain ⟨a, c, rfl, _, _⟩ := hR.own.form
      clear hR
      go_wp2_with fail
      rw [Exit.noGoto_ret]
      go_ret2
      exact rowOut_none (by rw [hpath.out, hs.out]) hbel
    | cons r0 rows =>
      obtain ⟨r, q, hq⟩ : ∃ r q, (atF frm k).2 = r :: q := ⟨_, _, hR.same.symm⟩
      have hq0 := hR.same
      rw [hq] at hq0
      simp only [rowsOf, List.map_cons, List.cons.injEq] at hq0
      obtain ⟨⟨rfl⟩, hq1⟩ := hq0
      have hst : atF frm k = ((atF frm k).1, (r0.1, r0.2.2) :: q) := by rw [← hq]
      obtain ⟨y0, y5, y6⟩ := z3 _ (by rw [hq]; exact List.mem_cons_self)
      have hk6 : k < 6 := by
        rcases Nat.lt_or_ge k 6 with h | h
        · exact h
        · have : k = 6 := by omega
          subst this
          rw [at_end frm h0 h5] at hq
          cases hq
      have hheld := hR.held r0 List.mem_cons_self
      obtain ⟨pa, pc, hpv, _, _⟩ := own_form hheld
      obtain ⟨s0, pv, p⟩ := r0
      simp only at hpv hheld y0 y5 y6 hst hq
      subst hpv
      obtain ⟨g, off, cap, rfl, hcap, hbg, hgl, ⟨cur, hgc⟩, hcells⟩ := hR.own.cells (by simp)
      have hc0 : wr.cell? ⟨g, off, none⟩ = some (.int .i64 s0) := hcells 0 _ rfl
      have hc1 : wr.cell? ⟨g, off + 1, none⟩ = some (.slice pa p.length pc) := hcells 1 _ rfl
      have hcap' : rows.length + 1 ≤ cap := by simpa using hcap
      have hq6 : rows.length ≤ 6 := by have := congrArg List.length hq1; rw [hq] at z2; simp at this z2; omega
      clear hcells hcap
      simp only [List.length_cons] at hcv hR
      have lw := lt_of_block hR.v
      have hcva : ∀ o, (wr.alloc o).cell? ⟨W2.heap.size + 1 + 1, 0, none⟩ = some (.slice (some ⟨g, off, none⟩) (rows.length + 1) cap) := fun o => cell_of_one ((Below.heap_alloc wr o _ lw).trans hR.v)
      have hfva : ∀ o, (wr.alloc o).frozen? ⟨W2.heap.size + 1 + 1, 0, none⟩ = false := fun o => free_of_one ((Below.heap_alloc wr o _ lw).trans hR.v)
      have hrb : ∀ x, ((wr.alloc (.cells #[.int .i64 s0, .slice pa p.length pc] 51)).setCell ⟨W2.heap.size + 1 + 1, 0, none⟩ x).heap[wr.heap.size]? = some (.cells #[.int .i64 s0, .slice pa p.length pc] 51 (0, 0)) :=
        fun x => (Below.heap_setCell _ _ _ _ (by simp; omega)).trans (heap_alloc_new _ _)
      have hr0 : ∀ x, ((wr.alloc (.cells #[.int .i64 s0, .slice pa p.length pc] 51)).setCell ⟨W2.heap.size + 1 + 1, 0, none⟩ x).cell? ⟨wr.heap.size, 0, none⟩ = some (.int .i64 s0) := fun x => cell_of_row _ _ 0 _ _ _ (hrb x)
      have hr1 : ∀ x, ((wr.alloc (.cells #[.int .i64 s0, .slice pa p.length pc] 51)).setCell ⟨W2.heap.size + 1 + 1, 0, none⟩ x).cell? ⟨wr.heap.size, 1, none⟩ = some (.slice pa p.length pc) := fun x => cell_of_row _ _ 1 _ _ _ (hrb x)
      clear hrb
      have hpop : ∃ cap2 off2, Hid ((1 < cap ∧ off2 = off + 2 ∧ cap2 = cap - 1) ∨ (cap = 1 ∧ rows.length = 0 ∧ off2 = off ∧ cap2 = 0)) ∧ ownsAt wr w.heap.size 51 2 (.slice (some ⟨g, off2, none⟩) rows.length cap2) rows.length (rowCells rows) := by
        by_cases hc : 1 < cap
        · exact ⟨cap - 1, off + 2, .inl ⟨hc, rfl, rfl⟩, hR.own.tail hc⟩
        · have h1 : cap = 1 := by omega
          have h2 : rows.length = 0 := by omega
          have hnil := List.eq_nil_of_length_eq_zero h2
          subst h1
          subst hnil
          exact ⟨0, off, .inr ⟨rfl, rfl, rfl, rfl⟩, hR.own.tail_last⟩
      obtain ⟨cap2, off2, hcap2, hown2⟩ := hpop
      have hst' := hst
      rw [hst'] at hR
      have hpop := Rep.popped hR (.cells #[.int .i64 s0, .slice pa p.length pc] 51) hown2
      have hheld2 : Held ((wr.setCell ⟨W2.heap.size + 1 + 1, 0, none⟩ (.slice (some ⟨g, off2, none⟩) rows.length cap2)).alloc (.cells #[.int .i64 s0, .slice pa p.length pc] 51)) w.heap.size (.slice pa p.length pc) p :=
        World.ownsRow.alloc (hheld.kept (grownBy_setCell' _ _ _) (held_row hheld hR.v (by simp))) _
      have hbel2 : Below w.heap.size w ((wr.setCell ⟨W2.heap.size + 1 + 1, 0, none⟩ (.slice (some ⟨g, off2, none⟩) rows.length cap2)).alloc (.cells #[.int .i64 s0, .slice pa p.length pc] 51)) :=
        (hbel.setCell (p := ⟨W2.heap.size + 1 + 1, 0, none⟩) (by simp; omega) _).alloc (by simp; omega) _
      have HP := Lib.hid (And.intro hpop (And.intro hheld2 hbel2))
      clear hpop hheld2 hbel2 hown2 hheld hbel hR hst' hgc hq1
      by_cases hto : s0 = to
      · subst hto
        have hs := Lib.hid (findF_hit frm s0 k (by omega) (s0, p) q hq rfl)
        clear hq hst
        rcases hcap2.out with ⟨hc, rfl, rfl⟩ | ⟨rfl, hl0, rfl, rfl⟩
        · go_wp2_with fail
          go_ret2
          exact rowOut_some (l := p) (by rw [hpath.out, hs.out]) rfl HP.out.2.1 HP.out.2.2
        · rw [hl0] at HP hcv hcva
          go_wp2_with fail
          go_ret2
          exact rowOut_some (l := p) (by rw [hpath.out, hs.out]) rfl HP.out.2.1 HP.out.2.2
      · have hs := Lib.hid (findF_on frm to k (by omega) (s0, p) q hq hto)
        have hss := Lib.hid (atF_step frm k (s0, p) q hq)
        have hne : (s0 == to) = false := by simp [hto]
        clear hto hst hq
        rcases hcap2.out with ⟨hc, rfl, rfl⟩ | ⟨rfl, hl0, rfl, rfl⟩
        · go_wp2_with (go_at_call 23; refine (next_any w.heap.size _ _ _ _ _ _ _ s0 pa pc p HP.out.2.2.size HP.out.1 HP.out.2.1 y0 y5 (by simp; omega) (by omega) (by omega) (by omega) (by omega) hB).mono ?_; rintro e W4 ⟨rfl, ⟨wv4, rows4, hR4⟩, hb4⟩)
          try go_end0
          go_wp2_with fail
          go_roundg (gk - 1)
          case measure => omega
          case rel => exact ⟨k + 1, wv4, rows4, by omega, rfl, rfl, by show _ = _; rw [hpath.out, hs.out], by rw [hss.out]; exact hR4, HP.out.2.2.trans hb4⟩
        · rw [hl0] at HP hcv hcva
          go_wp2_with (go_at_call 23; refine (next_any w.heap.size _ _ _ _ _ _ _ s0 pa pc p HP.out.2.2.size HP.out.1 HP.out.2.1 y0 y5 (by simp; omega) (by omega) (by omega) (by omega) (by omega) hB).mono ?_; rintro e W4 ⟨rfl, ⟨wv4, rows4, hR4⟩, hb4⟩)
          try go_end0
          go_wp2_with fail
          go_roundg (gk - 1)
          case measure => omega
          case rel => exact ⟨k + 1, wv4, rows4, by omega, rfl, rfl, by show _ = _; rw [hpath.out, hs.out], by rw [hss.out]; exact hR4, HP.out.2.2.trans hb4⟩

theorem path_out (frm to : Int) (w : World) (h : frm < 0 ∨ 5 < frm ∨ to < 0 ∨ 5 < to) : Calls Try.prog 15 #[.int .i64 frm, .int .i64 to] w fun x w' => RowOut w w' ([], false) x := by
  have hbel : Below w.heap.size w w := Below.refl _ _
  by_cases hf : frm < 0 ∨ 5 < frm
  · have hw1 := wordF_out frm hf
    go_enter Try.func15, Try.ntmps15
    go_wp2_with fail
    go_step3
    go_wp2_with (go_at_call 20; refine (word_any _ _).mono ?_; rintro x W1 ⟨rfl, hb1⟩; rw [hw1]; replace hbel := bthen hbel hb1; clear hb1)
    try rw [Exit.noGoto_ret]
    go_ret2
    exact rowOut_none rfl hbel
  · have hw1 := wordF_in frm (by omega) (by omega)
    have hw2 := wordF_out to (by omega)
    go_enter Try.func15, Try.ntmps15
    go_wp2_with fail
    go_step3
    go_wp2_with (go_at_call 20; refine (word_any _ _).mono ?_; rintro x W1 ⟨rfl, hb1⟩; (first | rw [hw2] | skip); replace hbel := bthen hbel hb1; clear hb1)
    try rw [Exit.noGoto_ret]
    go_ret2
    exact rowOut_none rfl hbel

theorem path_any (frm to : Int) (w : World) : Calls Try.prog 15 #[.int .i64 frm, .int .i64 to] w fun x w' => RowOut w w' (pathR frm to) x := by
  unfold pathR
  split
  · exact path_out frm to w (by assumption)
  · exact path_in frm to (by omega) (by omega) (by omega) (by omega) w

/-- The chapter's example. -/
def evs : List Int := [1, 2, 3, 3]
theorem evs_run : runF (fun i => evs.getD i 0) 0 0 4 = (3, 3, 9) := by decide
theorem evs_ints (w : World) : Ints .i64 (w.alloc (.cells #[.int .i64 1, .int .i64 2, .int .i64 3, .int .i64 3] 3)) (some ⟨w.heap.size, 0, none⟩) 4 (fun i => evs.getD i 0) :=
  .inr ⟨w.heap.size, 0, rfl, fun i hi => by
    rw [cell_of_row _ _ (0 + i) _ _ _ (heap_alloc_new w _)]
    have : i = 0 ∨ i = 1 ∨ i = 2 ∨ i = 3 := by omega
    rcases this with rfl | rfl | rfl | rfl <;> rfl⟩

theorem path_exam (w : World) : Calls Try.prog 15 #[.int .i64 5, .int .i64 3] w fun x w' => ∃ g c, x = .returned (.tuple #[.slice (some ⟨g, 0, none⟩) 3 c, .bool true]) ∧ 3 ≤ c ∧ w'.cell? ⟨g, 0, none⟩ = some (.int .i64 1) ∧ w'.cell? ⟨g, 2, none⟩ = some (.int .i64 3) ∧ Below w.heap.size w w' := by
  have h := path_any 5 3 w
  rw [show pathR 5 3 = ([1, 2, 3], true) from by decide] at h
  refine h.mono ?_
  rintro x W2 ⟨a, c, rfl, hown, hb⟩
  rcases hown.2 with ⟨h0, _⟩ | ⟨g, cap, cur, hv, _, _, hn, _⟩
  · cases h0
  · cases hv
    exact ⟨g, c, rfl, hn, hown.cells rfl 0 _ rfl, hown.cells rfl 2 _ rfl, hb⟩

set_option maxHeartbeats 1000000 in
theorem known_any (w : World) : Calls Try.prog 10 #[] w fun x w' => x = .returned (.bool true) ∧ Below w.heap.size w w' := by
  have hbel : Below w.heap.size w w := Below.refl _ _
  go_enter Try.func10, Try.ntmps10
  go_wp2_with (first
    | (go_at_call 13; refine (run_any 0 _ 4 _ _ _ (by decide) (evs_ints _)).mono ?_; rintro x W1 ⟨rfl, hb1⟩; rw [evs_run]; replace hbel := (hbel.alloc (Nat.le_refl _) _).trans (hb1.mono (by simp)); clear hb1)
    | (go_at_call 15; refine (path_exam _).mono ?_; rintro x W2 ⟨g2, c2, rfl, hc2, hd0, hd2, hb2⟩; replace hbel := bthen hbel hb2; clear hb2))
  go_ret
  exact ⟨ret_bool rfl, hbel⟩
end Go.Proofs.Ytnjipfnajgcibaa.lw
