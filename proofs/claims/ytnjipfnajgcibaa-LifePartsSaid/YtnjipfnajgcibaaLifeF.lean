/-
  The walk of the closure of the search: the states that a row leads to.
-/
import Derived.Test.YtnjipfnajgcibaaLifeE
import Derived.Deep.RegionLaw
import Derived.BigRegion
import Derived.RangeFuncBox
namespace Go.Proofs.Ytnjipfnajgcibaa.lw
open Go.RowKit Go.Proofs.Ytnjipfnajgcibaa.ba Go.Proofs.Ytnjipfnajgcibaa.lp
set_option linter.unusedVariables false

theorem info51 : (Try.prog.info? 51).map (fun i => (i.zero, i.size, i.bytes)) = some (some (.agg #[.int .i64 0, .slice none 0 0]), 2, 32) := by kernel_rfl

theorem rowCells_add (rows : RowL) (to : Int) (v : Value) (q : List Int) : rowCells (rows ++ [(to, v, q)]) = rowCells rows ++ [.int .i64 to, v] := by simp [rowCells, List.flatMap_append]

/-- One row more waits: what the region of 'wait = append(wait, ..)' leaves. -/
theorem next_added {B Bm Bw Mb N pl cc n36 : Nat} {w W2 W4 W5 : World} {mets : List Int} {l : List (Int × List Int)} {wv : Value} {rows : RowL} {s to : Int} {p q can : List Int} {pa ca a36 aw : Option Addr} {pc c36 cw : Nat} {o : Obj}
    (hR : Rep B Bm Bw Mb W2 (mets, l) wv rows) (hx : W2.heap[N]? = some (.cells #[.int .i64 s, .slice pa pl pc] 51 (0, 0))) (hne : wv.ownBlock ≠ some N)
    (hc : W2.ownsRow (N + 1) 3 1 (.slice ca can.length cc) can.length (can.map (Value.int .i64))) (hp : Held W2 B (.slice pa p.length pc) p) (hbel : Below B w W2) (hBw : B ≤ Bw) (hB : B ≤ W2.heap.size)
    (hb : Below W2.heap.size W2 W4) (hq : n36 = q.length) (h36 : W4.ownsRow W2.heap.size 3 1 (.slice a36 n36 c36) n36 (q.map (Value.int .i64)))
    (hg5 : (W4.alloc o).grownBy W5 wv.ownBlock) (h5 : ownsAt W5 B 51 2 (.slice aw (rows.length + 1) cw) (rows.length + 1) (rowCells rows ++ [.int .i64 to, .slice a36 n36 c36]))
    (h5' : ∀ k, (Value.slice aw (rows.length + 1) cw).ownBlock = some k → wv.ownBlock = some k ∨ (W4.alloc o).heap.size ≤ k) :
    W5.heap[Bw]? = some (.cells #[wv] 52 (0, 0)) ∧ Rep B Bm Bw Mb (W5.setCell ⟨Bw, 0, none⟩ (.slice aw (rows.length + 1) cw)) (mets, l ++ [(to, q)]) (.slice aw (rows.length + 1) cw) (rows ++ [(to, .slice a36 n36 c36, q)]) ∧
    (W5.setCell ⟨Bw, 0, none⟩ (.slice aw (rows.length + 1) cw)).heap[N]? = some (.cells #[.int .i64 s, .slice pa pl pc] 51 (0, 0)) ∧ (Value.slice aw (rows.length + 1) cw).ownBlock ≠ some N ∧
    (W5.setCell ⟨Bw, 0, none⟩ (.slice aw (rows.length + 1) cw)).ownsRow (N + 1) 3 1 (.slice ca can.length cc) can.length (can.map (Value.int .i64)) ∧
    Held (W5.setCell ⟨Bw, 0, none⟩ (.slice aw (rows.length + 1) cw)) B (.slice pa p.length pc) p ∧ Below B w (W5.setCell ⟨Bw, 0, none⟩ (.slice aw (rows.length + 1) cw)) := by
  subst hq
  have hg2 := grown_below hb
  have hR4 := (hR.kept hg2).kept (World.grownBy_alloc W4 o none)
  have hx4 := (Below.heap_alloc W4 o N (Nat.lt_of_lt_of_le (lt_of_block hx) hb.size)).trans ((hb.block N (lt_of_block hx)).trans hx)
  have hc4 := (own_below hc hb).alloc o
  have hp4 : Held (W4.alloc o) B (.slice pa p.length pc) p := World.ownsRow.alloc (own_below hp hb) o
  have h364 : Held (W4.alloc o) B (.slice a36 q.length c36) q := World.ownsRow.alloc (own_mono h36 hB) o
  have nv : wv.ownBlock ≠ some Bw := by
    rcases at_ne hR4.own hR4.v (by simp) with h | h
    · rw [h]; simp
    · exact h
  have nm : wv.ownBlock ≠ some Bm := by
    rcases at_ne hR4.own hR4.m (by simp) with h | h
    · rw [h]; simp
    · exact h
  obtain ⟨es, clk, hmb⟩ := hR4.met.lt
  have nb : wv.ownBlock ≠ some Mb := by
    rcases at_ne hR4.own hmb (by simp) with h | h
    · rw [h]; simp
    · exact h
  have hm5 := (hg5.block Bm (lt_of_block hR4.m) (fun e => nm e.symm)).trans hR4.m
  have hv5 := (hg5.block Bw (lt_of_block hR4.v) (fun e => nv e.symm)).trans hR4.v
  have hx5 := (hg5.block N (lt_of_block hx4) (fun e => hne e.symm)).trans hx4
  have ht5 := hR4.met.kept hg5 (fun e => nb e.symm)
  have hc5 := hc4.kept hg5 (own_at_ne hc4 hR4.own (by decide))
  have hp5 := hp4.kept hg5 (own_at_ne hp4 hR4.own (by decide))
  have h365 := h364.kept hg5 (own_at_ne h364 hR4.own (by decide))
  have hd5 : ∀ r ∈ rows, Held W5 B r.2.1 r.2.2 := fun r hr => (hR4.held r hr).kept hg5 (own_at_ne (hR4.held r hr) hR4.own (by decide))
  have hb5 : Below B w W5 := ((hbel.trans (hb.mono hB)).alloc (Nat.le_trans hB hb.size) o).grown hg5 (by have := hb.size; simp; omega) (fun k hk => (hR4.own.lt k hk).1)
  have hg6 := grownBy_setCell' W5 Bw (.slice aw (rows.length + 1) cw)
  have n1 : Bm ≠ Bw := fun e => by subst e; rw [hm5] at hv5; simp at hv5
  have n2 : N ≠ Bw := fun e => by subst e; rw [hx5] at hv5; simp at hv5
  obtain ⟨es5, clk5, hmb5⟩ := ht5.lt
  have n3 : Mb ≠ Bw := fun e => by subst e; rw [hmb5] at hv5; simp at hv5
  refine ⟨hv5, ⟨?_, ht5.kept hg6 (by simpa using n3), one_setCell hv5, ?_, ?_, ?_⟩, ?_, ?_, hc5.kept hg6 (own_ne hc5 hv5 (by simp)), hp5.kept hg6 (held_row hp5 hv5 (by simp)), hb5.setCell hBw _⟩
  · rw [hg6.block Bm (lt_of_block hm5) (by simpa using n1)]; exact hm5
  · have := h5.kept hg6 (at_ne h5 hv5 (by simp))
    rw [rowCells_add, List.length_append]
    exact this
  · have := hR4.same
    simp only [rowsOf, List.map_append, List.map_cons, List.map_nil] at this ⊢
    rw [this]
  · intro r hr
    rcases List.mem_append.1 hr with hr | hr
    · exact (hd5 r hr).kept hg6 (held_row (hd5 r hr) hv5 (by simp))
    · rw [List.mem_singleton.1 hr]
      exact h365.kept hg6 (held_row h365 hv5 (by simp))
  · rw [hg6.block N (lt_of_block hx5) (by simpa using n2)]; exact hx5
  · intro e
    rcases h5' _ e with h | h
    · exact hne h
    · have := lt_of_block hx4; omega

/-- What the closure leaves. -/
def NextPost (B Bm Bw Mb : Nat) (w : World) (st : List Int × List (Int × List Int)) (e : Ending) (w' : World) : Prop :=
  e = .returned (.tuple #[]) ∧ (∃ wv rows, Rep B Bm Bw Mb w' st wv rows) ∧ Below B w w'

/-- The loop's relation. -/
def NextRel (B Bm Bw Mb : Nat) (w : World) (s : Int) (p : List Int) (pa : Option Addr) (pc : Nat) (st : List Int × List (Int × List Int)) (ca : Option Addr) (cc : Nat) (k : Nat) (wr : World) : Prop :=
  ∃ wv rows, Rep B Bm Bw Mb wr (nextF s p st ((canK s 5).take k)) wv rows ∧ wr.heap[w.heap.size]? = some (.cells #[.int .i64 s, .slice pa p.length pc] 51 (0, 0)) ∧ wv.ownBlock ≠ some w.heap.size ∧
    wr.ownsRow (w.heap.size + 1) 3 1 (.slice ca (canK s 5).length cc) (canK s 5).length ((canK s 5).map (Value.int .i64)) ∧ Held wr B (.slice pa p.length pc) p ∧ Below B w wr ∧
    (nextF s p st ((canK s 5).take k)).1.length ≤ 100 + k ∧ rows.length ≤ 100 + k

set_option maxHeartbeats 1000000 in
theorem next_any (B Bm Bw Mb : Nat) (w : World) (st : List Int × List (Int × List Int)) (wv : Value) (rows : RowL) (s : Int) (pa : Option Addr) (pc : Nat) (p : List Int) (hB : B ≤ w.heap.size)
    (hR : Rep B Bm Bw Mb w st wv rows) (hp : Held w B (.slice pa p.length pc) p) (h0 : 0 ≤ s) (h5 : s ≤ 5) (b1 : st.1.length ≤ 100) (b2 : rows.length ≤ 100) (b3 : p.length ≤ 100) (hBm : B ≤ Bm) (hBw : B ≤ Bw) (hMb : B ≤ Mb) :
    Calls Try.prog 23 #[.agg #[.int .i64 s, .slice pa p.length pc], .pointer (some ⟨Bm, 0, none⟩), .pointer (some ⟨Bw, 0, none⟩)] w fun e w' => NextPost B Bm Bw Mb w (nextF s p st (canK s 5)) e w' := by
  obtain ⟨i0, hi, hz0, hz1, hz2⟩ := info_parts info3
  have hcl := canK_le s 5
  have hRa := hR.kept (World.grownBy_alloc w (.cells #[.int .i64 s, .slice pa p.length pc] 51) none)
  have hpa : Held (w.alloc (.cells #[.int .i64 s, .slice pa p.length pc] 51)) B (.slice pa p.length pc) p := World.ownsRow.alloc hp _
  have hbx : (w.alloc (.cells #[.int .i64 s, .slice pa p.length pc] 51)).heap[w.heap.size]? = some (.cells #[.int .i64 s, .slice pa p.length pc] 51 (0, 0)) := heap_alloc_new _ _
  have hwv : wv.ownBlock ≠ some w.heap.size := fun e => by have := hR.own.lt _ e; omega
  have hbel : Below B w (w.alloc (.cells #[.int .i64 s, .slice pa p.length pc] 51)) := (Below.refl _ _).alloc hB _
  have HR := Lib.hid (⟨hRa, hpa, hbx⟩ : Rep B Bm Bw Mb (w.alloc (.cells #[.int .i64 s, .slice pa p.length pc] 51)) st wv rows ∧ Held (w.alloc (.cells #[.int .i64 s, .slice pa p.length pc] 51)) B (.slice pa p.length pc) p ∧ (w.alloc (.cells #[.int .i64 s, .slice pa p.length pc] 51)).heap[w.heap.size]? = some (.cells #[.int .i64 s, .slice pa p.length pc] 51 (0, 0)))
  clear hRa hpa hbx
  go_enter Try.func23, Try.ntmps23
  go_wp2_with fail
  refine (can_any _ _).mono ?_
  rintro x W1 ⟨ca, cc, rfl, hc, hb1⟩
  obtain ⟨hRa, hpa, hbx⟩ := HR.out
  have hg1 := grown_below hb1
  have rel0 : NextRel B Bm Bw Mb w s p pa pc st ca cc 0 W1 :=
    ⟨wv, rows, hRa.kept hg1, (hg1.block _ (lt_of_block hbx) (by simp)).trans hbx, hwv, by simpa using hc, own_below hpa hb1, hbel.trans (hb1.mono (by simp; omega)), by simpa [nextF] using b1, b2⟩
  clear hRa hpa hbx hg1 hc hb1 hbel HR
  go_wp2_with fail
  go_loopw [12] (fun i wr => ∃ k : Nat, k ≤ (canK s 5).length ∧ i = .int .i64 k ∧ NextRel B Bm Bw Mb w s p pa pc st ca cc k wr) (fun i _ => (canK s 5).length - (intOf i).toNat)
  case atStart => exact ⟨0, Nat.zero_le _, rfl, rel0⟩
  case round =>
    obtain ⟨k, hk, rfl, wv, rows, hR, hbx, hwv, hc, hp, hbel, n1, n2⟩ := hrel
    by_cases hlt : k < (canK s 5).length
    · obtain ⟨v, hv⟩ : ∃ v, v = (canK s 5).getD k 0 := ⟨_, rfl⟩
      have htk : (canK s 5).take (k + 1) = (canK s 5).take k ++ [v] := by rw [List.take_succ_eq_append_getElem hlt, hv]; simp [List.getD, hlt]
      have hZ := Ints.own hc
      rcases hZ with hz | ⟨cb, coff, rfl, hcell⟩
      · omega
      have c1 := hcell k hlt
      have c1' : wr.cell? ⟨cb, coff + k, none⟩ = some (.int .i64 v) := by rw [hv]; exact c1
      have Hv := Lib.hid (And.intro hv htk)
      clear hcell c1 hv htk
      have hm := moveF_bounds s v
      have hbc := cell_of_row wr w.heap.size 0 _ _ _ hbx
      have hbc1 := cell_of_row wr w.heap.size 1 _ _ _ hbx
      have hmc := cell_of_one hR.m
      simp at hbc hbc1
      go_wp2_with fail
      refine (move_any _ _ _).mono ?_
      rintro x W1 ⟨rfl, hb1⟩
      have hg1 := grown_below hb1
      have hR1 := hR.kept hg1
      have hbx1 := (hg1.block _ (lt_of_block hbx) (by simp)).trans hbx
      have hc1 := own_below hc hb1
      have hp1 := own_below hp hb1
      have hbel1 := hbel.trans (hb1.mono (by have := hbel.size; omega))
      clear hR hbx hc hp hbel hb1 hg1 hbc hbc1 c1' hmc
      have hmc := cell_of_one hR1.m
      by_cases hin : (moveF s v).1 ∈ (nextF s p st ((canK s 5).take k)).1
      · have hl := run_look hR1.met (moveF s v).1 hm.1 hm.2.1
        rw [decide_eq_true hin] at hl
        have hst : nextF s p st ((canK s 5).take (k + 1)) = nextF s p st ((canK s 5).take k) := by rw [Hv.out.2, nextF_snoc, stepF, if_pos hin]
        have rel1 : NextRel B Bm Bw Mb w s p pa pc st (some ⟨cb, coff, none⟩) cc (k + 1) W1 := ⟨wv, rows, by rw [hst]; exact hR1, hbx1, hwv, hc1, hp1, hbel1, by rw [hst]; omega, by omega⟩
        clear hR1 hbx1 hwv hc1 hp1 hbel1 n1 n2 hin hst
        go_wp2_with fail
        go_roundw
        case rel => exact ⟨k + 1, by omega, by go_num, rel1⟩
        case measure => simp [intOf]; omega
      · have hl := run_look hR1.met (moveF s v).1 hm.1 hm.2.1
        rw [decide_eq_false hin] at hl
        have hst : nextF s p st ((canK s 5).take (k + 1)) = ((moveF s v).1 :: (nextF s p st ((canK s 5).take k)).1, (nextF s p st ((canK s 5).take k)).2 ++ [((moveF s v).1, p ++ [v])]) := by rw [Hv.out.2, nextF_snoc, stepF, if_neg hin]
        have Hst := Lib.hid hst
        clear hst hin
        go_wp2_with (at_mapUpdate; refine wpList_put rfl _ _ _ rfl Mb _ _ rfl hR1.met _ rfl rfl hm.1 hm.2.1 (by omega) ?_; intro W2 hm2 hg2)
        have hR2 := hR1.marked hm2 hg2
        obtain ⟨es, clk, hmb⟩ := hR1.met.lt
        have hbx2 := (hg2.block _ (lt_of_block hbx1) (fun e => by cases e; rw [hbx1] at hmb; cases hmb)).trans hbx1
        have hc2 := hc1.kept hg2 (own_ne hc1 hmb (by simp))
        have hp2 : Held W2 B (.slice pa p.length pc) p := World.ownsRow.kept hp1 hg2 (own_ne hp1 hmb (by simp))
        have hbel2 := hbel1.grown hg2 (by have := hbel1.size; omega) (fun j hj => by cases hj; exact hMb)
        clear hR1 hbx1 hc1 hp1 hbel1 hm2 hg2 hmb hmc
        have hcw2 := cell_of_one hR2.v
        have hpc2 := cell_of_row W2 w.heap.size 1 _ _ _ hbx2
        simp at hpc2
        have lw2 := lt_of_block hR2.v
        have lx2 := lt_of_block hbx2
        have hq2 := hR2.own
        have hp2o : W2.ownsRow B 3 1 (.slice pa p.length pc) p.length (p.map (Value.int .i64)) := hp2
        have hv2 := hR2.v
        clear hl
        have HR2 := Lib.hid hR2
        have HC2 := Lib.hid (And.intro hbx2 (And.intro hc2 (And.intro hp2 hbel2)))
        clear hR2 hbx2 hc2 hp2 hbel2
        obtain ⟨i1, hj, hy0, hy1, hy2⟩ := info_parts info51
        go_region_law (first
          | (refine step_append_copy _ rfl _ _ 27 rfl 3 i0 (.int .i64 0) 1 8 Try.underlying27 hi hz0 hz1 hz2 rfl (by decide) B (.slice pa p.length pc) p.length (p.map (Value.int .i64)) rfl rfl (by first | exact hp2o | exact hp2o.alloc _) (by simp [Value.oneCell']) (by unfold maxLen; omega) (by omega) ?_; intro v33 W3 hown3 hg3
             have hb3 : Below W2.heap.size W2 W3 := by first | exact (Below.refl _ W2).drew.grown hg3 (Nat.le_refl _) (by simp) | exact ((Below.refl _ W2).drew.alloc (Nat.le_refl _) _).grown hg3 (by simp) (by simp)
             replace hown3 : W3.ownsRow W2.heap.size 3 1 v33 p.length (p.map (Value.int .i64)) := own_mono hown3 (by simp)
             have hcw3 := cell_of_one ((hb3.block Bw lw2).trans hv2)
             have hcw3a : ∀ o, (W3.alloc o).cell? ⟨Bw, 0, none⟩ = some wv := fun o => cell_of_one ((Below.heap_alloc W3 o Bw (Nat.lt_of_lt_of_le lw2 hb3.size)).trans ((hb3.block Bw lw2).trans hv2))
             have hz3 := hb3.size)
          | (refine step_append_own _ rfl _ _ 27 rfl W2.heap.size 3 i0 (.int .i64 0) 1 8 Try.underlying27 hi hz0 hz1 hz2 rfl (by decide) v33 p.length (p.map (Value.int .i64)) rfl (by first | exact hown3 | exact hown3.alloc _) _ 1 1 [.int .i64 v] rfl rfl (by first | exact World.news_of_block (heap_alloc_new _ _) | exact World.news_of_block ((hg3.block _ (by simp) (by simp)).trans (heap_alloc_new _ _))) (by simp [Value.oneCell']) (by unfold maxLen; omega) (by omega) (by first | exact hz3 | (simp; omega)) ?_; intro v36 W4 hown4 hg4
             have hb4 : Below W2.heap.size W2 W4 := by first | exact hb3.grown hg4 hz3 (fun k hk => (hown3.lt k hk).1) | exact (hb3.alloc hz3 _).grown hg4 (by simp; omega) (fun k hk => (hown3.lt k hk).1)
             have hcw4 := cell_of_one ((hb4.block Bw lw2).trans hv2)
             have hcw4a : ∀ o, (W4.alloc o).cell? ⟨Bw, 0, none⟩ = some wv := fun o => cell_of_one ((Below.heap_alloc W4 o Bw (Nat.lt_of_lt_of_le lw2 hb4.size)).trans ((hb4.block Bw lw2).trans hv2))
             have hz4 := hb4.size
             obtain ⟨a36, c36, rfl, _, _⟩ := own_form hown4)
          | (refine step_append_at _ rfl _ _ 52 rfl B 51 i1 (.agg #[.int .i64 0, .slice none 0 0]) 2 32 Try.underlying52 hj hy0 hy1 hy2 rfl (by decide) wv rows.length (rowCells rows) rfl ((hq2.kept (grown_below hb4) (by cases wv.ownBlock <;> simp)).alloc _) _ 1 1 [.int .i64 (moveF s v).1, .slice a36 (p.length + 1) c36] rfl rfl (World.news_of_block (heap_alloc_new _ _)) (by simp [Value.oneCell']) (by unfold maxLen; omega) (by omega) (by simp; omega) ?_; intro wv2 W5 hown5 hg5 hk5
             obtain ⟨aw, cw, rfl, _, _⟩ := hown5.form
             have hF := next_added (q := p ++ [v]) HR2.out HC2.out.1 hwv HC2.out.2.1 HC2.out.2.2.1 HC2.out.2.2.2 hBw (by omega) hb4 (by simp) (by simpa using hown4) hg5 hown5 hk5
             have hcw5 := cell_of_one hF.1
             have hfw5 := free_of_one hF.1
             have HF := Lib.hid hF
             clear hF)
          | fail)
        all_goals
          go_wp2_with fail
          go_roundw
          case rel =>
            refine ⟨k + 1, by omega, by go_num, ?_⟩
            obtain ⟨_, f1, f2, f3, f4, f5, f6⟩ := HF.out
            refine ⟨_, rows ++ [((moveF s v).1, .slice a36 (p.length + 1) c36, p ++ [v])], ?_, f2, f3, f4, f5, f6, ?_, ?_⟩
            · rw [Hst.out]; exact f1
            · rw [Hst.out]; simp; omega
            · simp; omega
          case measure => simp [intOf]; omega
    · have : k = (canK s 5).length := by omega
      subst this
      go_wp2_with fail
      go_end0
      rw [List.take_length] at hR
      exact ⟨rfl, ⟨wv, rows, hR⟩, hbel⟩
end Go.Proofs.Ytnjipfnajgcibaa.lw
