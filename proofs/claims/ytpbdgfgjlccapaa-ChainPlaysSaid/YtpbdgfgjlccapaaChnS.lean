/-
  The walk of the law ChainMany: some versions at once.
-/
import Derived.Test.YtpbdgfgjlccapaaChnR
namespace Go.Proofs.Ytpbdgfgjlccapaa.cw
open Go.RowKit Go.Proofs.Ytpbdgfgjlccapaa.ba Go.Proofs.Ytpbdgfgjlccapaa.rp Go.Proofs.Ytpbdgfgjlccapaa.rw Go.Proofs.Ytpbdgfgjlccapaa.cp
set_option maxRecDepth 8000
set_option linter.unusedVariables false
attribute [local go_sem ↓] Go.wp_at_zero Go.wp_at_succ

theorem puts_snoc (v : V) : ∀ (X L : List V), puts L (X ++ [v]) = if (puts L X).2.2 ≠ 0 then puts L X else if put1 (puts L X).1 v ≠ 0 then ((puts L X).1, (puts L X).2.1, put1 (puts L X).1 v) else ((puts L X).1 ++ [v], (puts L X).2.1 + 1, 0)
  | [], L => by
    have e : (puts L []).2.2 = 0 := rfl
    rw [List.nil_append, puts_one, e, if_neg (show ¬ ((0 : Int) ≠ 0) by decide)]
    rfl
  | x :: X, L => by
    have ih := puts_snoc v X (L ++ [x])
    rw [List.cons_append]
    by_cases hp : put1 L x ≠ 0
    · have e1 : ∀ Y, puts L (x :: Y) = (L, 0, put1 L x) := fun Y => by rw [puts, if_pos hp]
      rw [e1, e1, if_pos hp]
    · have e1 : ∀ Y, puts L (x :: Y) = ((puts (L ++ [x]) Y).1, (puts (L ++ [x]) Y).2.1 + 1, (puts (L ++ [x]) Y).2.2) := fun Y => by rw [puts, if_neg hp]
      rw [e1, e1, ih]
      simp only
      split
      · rfl
      · split <;> rfl
theorem puts_cnt : ∀ (X L : List V), (puts L X).2.1 ≤ X.length
  | [], L => Nat.le_refl _
  | v :: X, L => by
    have := puts_cnt X (L ++ [v])
    unfold puts
    split
    · simp
    · simp only [List.length_cons]
      omega
theorem puts_mem (x : V) : ∀ (X L : List V), x ∈ (puts L X).1 → x ∈ L ∨ x ∈ X
  | [], L, h => .inl h
  | v :: X, L, h => by
    unfold puts at h
    split at h
    · exact .inl h
    · rcases puts_mem x X (L ++ [v]) h with h1 | h1
      · rcases List.mem_append.1 h1 with h2 | h2
        · exact .inl h2
        · simp at h2
          exact .inr (by simp [h2])
      · exact .inr (List.mem_cons_of_mem _ h1)
/-- The first k, their texts cut. -/
def cutK (L : List V) (k : Nat) : List V := (L.take k).map fun v => cutV v false
theorem cutK_len {L : List V} {k : Nat} (h : k ≤ L.length) : (cutK L k).length = k := by simp [cutK]; omega
theorem cutK_step {L : List V} {k : Nat} {v : V} (hv : L[k]? = some v) : cutK L (k + 1) = cutK L k ++ [cutV v false] := by
  unfold cutK
  rw [take_snoc hv, List.map_append]
  rfl
theorem cutK_ok {L : List V} (h : ∀ v ∈ L, v.ok) (k : Nat) : ∀ v ∈ cutK L k, v.ok := by
  intro v hv
  obtain ⟨u, hu, rfl⟩ := List.mem_map.1 hv
  exact cutV_ok (h u (List.mem_of_mem_take hu)) _
theorem vo_dl {w : World} {base : Nat} {v : Value} {L D : List V} {a : Option Addr} (h : VO w base v L) (hd : DL w a D) (hD : D ≠ []) : ∀ p, a = some p → v.ownBlock ≠ some p.block := by
  rcases hd with rfl | ⟨b, off, cs, rfl, hB, _⟩
  · exact absurd rfl hD
  · intro p hp e
    cases hp
    rcases h.2 with ⟨rfl, _⟩ | ⟨q, cap, cur, rfl, _, hg, _⟩
    · cases e
    · simp [Value.ownBlock] at e
      subst e
      unfold Blk at hB
      rw [hg] at hB
      simp at hB
/-- Where ChainMany's loop is. -/
structure MS (w W : World) (xv : Value) (X : List V) (la : Option Addr) (D : List V) : Prop where
  x : VO W w.heap.size xv X
  d : DL W la D
  c : Blk W w.heap.size 40 #[.slice none 0 0]
  b : Below w.heap.size w W
section
variable {w W W' : World} {xv : Value} {X D : List V} {la : Option Addr}
theorem MS.below (h : MS w W xv X la D) (hb : Below W.heap.size W W') : MS w W' xv X la D :=
  ⟨own_below h.x hb, h.d.below hb, h.c.below hb, bthen h.b hb⟩
theorem MS.setd (h : MS w W xv X la D) {a' : Option Addr} {D' : List V} (hd : DL W a' D') : MS w W xv X a' D' := ⟨h.x, hd, h.c, h.b⟩
theorem MS.start (w : World) : MS w (w.alloc (.cells #[.slice none 0 0] 40)) (.slice none 0 0) [] none [] :=
  ⟨World.ownsRow_nil _ _ _ _, .inl rfl, Blk.new w _ _, box_b w _⟩
theorem MS.app (h : MS w W xv X la D) {o : Obj} {v' : Value} {X' : List V} (hO : VO W' w.heap.size v' X') (hg : (W.alloc o).grownBy W' xv.ownBlock) : MS w W' v' X' la D := by
  have h2 := h.below (box_b W o)
  refine ⟨hO, ?_, ?_, ?_⟩
  · cases D with
    | nil => exact .inl rfl
    | cons d D => exact h2.d.grown hg (vo_dl h2.x h2.d (by simp))
  · refine h2.c.grown hg (.inr fun e => ?_)
    rcases own_ne h2.x h2.c (by simp) with e2 | e2
    · rw [e2] at e; cases e
    · exact e2 e
  · exact h2.b.grown hg h2.b.size (fun k hk => (World.ownsRow.lt h2.x k hk).1)
end
set_option maxRecDepth 100000 in
set_option maxHeartbeats 8000000 in
theorem chainMany_any (a : Option Addr) (n c : Nat) (L : List V) (w : World) (hn : L.length = n) (hL : VL w a L) (hok : ∀ v ∈ L, v.ok) :
    Calls Try.prog 6 #[.slice a n c] w fun x w' => x = .returned (.bool true) ∧ Below w.heap.size w w' := by
  subst hn
  have HM := Lib.hid (MS.start w)
  go_enter Try.func6, Try.ntmps6
  go_wp2_with fail
  go_loopw [4, 5, 6, 7, 8] (fun l xv nn ww i wr => ∃ (k : Nat) (D : List V) (N : Nat) (E : Int) (la : Option Addr) (lc : Nat) (xa : Option Addr) (xc : Nat), l = .slice la D.length lc ∧ xv = .slice xa k xc ∧ nn = .int .i64 N ∧ ww = .int .i64 E ∧ i = .int .i64 k ∧ k ≤ L.length ∧ k ≤ 20 ∧ puts [] (cutK L k) = (D, N, E) ∧ MS w wr (.slice xa k xc) (cutK L k) la D) (fun _ _ _ _ i _ => 20 - (intOf i).toNat)
  case atStart => exact ⟨0, [], 0, 0, none, 0, none, 0, rfl, rfl, rfl, rfl, rfl, Nat.zero_le _, Nat.zero_le _, rfl, HM.out⟩
  case round =>
    obtain ⟨k, D, N, E, la, lc, xa, xc, rfl, rfl, rfl, rfl, rfl, hk, hk20, hp, hM⟩ := hrel
    by_cases hlt : k < L.length ∧ k < 20
    · obtain ⟨hlt, h20⟩ := hlt
      have hlti : (k : Int) < (L.length : Int) := by omega
      have h20i : (k : Int) < 20 := by omega
      obtain ⟨v, hv⟩ := at_some hlt
      obtain ⟨vb, voff, rfl, hva⟩ := hL.at2 hv
      obtain ⟨c0, c1, c2, c3, c4, c5, c6, c7, c8, c9, c10⟩ := hva.below hM.b
      have hvok := hok v (List.mem_of_getElem? hv)
      have HC := Lib.hid (cut_any v false wr hvok)
      have HX := Lib.hid (cutV_ok hvok false)
      have hst := cutK_step hv
      have hlen := cutK_len hk
      have hDl : D.length ≤ k := by have := puts_len (cutK L k) []; rw [hp] at this; simp [hlen] at this; exact this
      have hNk : N ≤ k := by have := puts_cnt (cutK L k) []; rw [hp, hlen] at this; exact this
      have hNi : (N : Int) ≤ 20 := by omega
      generalize hy : cutV v false = y at *
      have hps : puts [] (cutK L (k + 1)) = if E ≠ 0 then (D, N, E) else if put1 D y ≠ 0 then (D, N, put1 D y) else (D ++ [y], N + 1, 0) := by rw [hst, puts_snoc, hp]
      have HPS := Lib.hid hps
      have HM1 := Lib.hid hM
      have HST := Lib.hid hst
      have HLEN := Lib.hid hlen
      clear hva hvok hst hM hps hp hy hlen
      by_cases hE : E = 0
      · subst hE
        have HP := Lib.hid (HPS.out.trans (if_neg (by decide)))
        have hp2 : ∃ D2 E2 N2, (puts D [y]).1 = D2 ∧ put1 D y = E2 ∧ puts [] (cutK L (k + 1)) = (D2, N2, E2) ∧ ((E2 = 0 ∧ N2 = N + 1) ∨ (E2 ≠ 0 ∧ N2 = N)) := by
          have h1 := HP.out
          have h2 := puts_one D y
          by_cases h0 : put1 D y ≠ 0
          · rw [if_pos h0] at h1 h2
            exact ⟨D, _, N, by rw [h2], rfl, h1, .inr ⟨h0, rfl⟩⟩
          · rw [if_neg h0] at h1 h2
            have h3 : put1 D y = 0 := by simpa using h0
            exact ⟨D ++ [y], 0, N + 1, by rw [h2], h3, h1, .inl ⟨rfl, rfl⟩⟩
        obtain ⟨D2, E2, N2, hd2, he2, hpp, hN2⟩ := hp2
        have hPUT := fun (W : World) (h : DL W la D) => dput_any la D.length lc D y W rfl (by omega) h HX.out
        unfold DPut at hPUT
        simp only [hd2, he2] at hPUT
        have HPUT := Lib.hid hPUT
        have HOF := Lib.hid fun (W : World) => vof_any y W HX.out
        have HPP := Lib.hid hpp
        have HN2 := Lib.hid hN2
        clear hd2 he2 hpp hN2 hPUT HPS HP
        by_cases hE2 : E2 = 0
        · subst hE2
          have hN : N2 = N + 1 := by rcases HN2.out with ⟨_, h⟩ | ⟨h, _⟩; exact h; exact absurd rfl h
          have HNN := Lib.hid hN
          clear hN HN2
          go_wp2_with (first
            | (go_at_call 16; ((with_reducible refine HC.out.mono ?_); rintro x w1 ⟨rfl, hb1⟩; have HM2 := Lib.hid ((HM1.out.below hb1).below (box_b w1 (.cells (#[.int .u64 y.a, .bool y.d, .int .u8 y.r.k, .int .u8 y.r.s, .int .u8 y.r.u, .int .u8 y.r.p, .int .u8 y.r.m, .bool y.r.g, .int .u32 y.r.v, .int .u64 y.r.a, .string y.r.t]) 43))); have HLT := Lib.hid (fun j hj => (World.ownsRow.lt (HM1.out.below hb1).x j hj).2); clear hb1))
            | (at_builtin; go_loud ((refine wpList_append_vs rfl _ _ rfl w.heap.size _ (cutK L k) rfl (World.ownsRow.alloc HM2.out.x _) (some ⟨w1.heap.size + 1, 0, none⟩) 1 1 [y] rfl rfl (vl_new2 w1 y) (by rw [HLEN.out]; omega) (by have := HM2.out.b.size; simp at this ⊢; omega) ?_; intro v6 w5 hO6 hg6 _; have HM5 := Lib.hid (HM2.out.app hO6 hg6); obtain ⟨e0, e1, e2, e3, e4, e5, e6, e7, e8, e9, e10⟩ := elev_blk (((Blk.new w1 43 (#[.int .u64 y.a, .bool y.d, .int .u8 y.r.k, .int .u8 y.r.s, .int .u8 y.r.u, .int .u8 y.r.p, .int .u8 y.r.m, .bool y.r.g, .int .u32 y.r.v, .int .u64 y.r.a, .string y.r.t])).alloc _).grown hg6 (.inr fun e => by have := HLT.out _ e; omega)); clear hO6 hg6; obtain ⟨xa6, xc6, hv6, _⟩ := HM5.out.x.vl; rw [List.length_append, HLEN.out] at hv6; subst hv6)))
            | (go_at_call 18; ((with_reducible refine (HOF.out _).mono ?_); rintro x w6 ⟨rfl, hb6⟩; have HM6 := Lib.hid (HM5.out.below hb6); clear hb6))
            | (go_at_call 17; ((with_reducible refine (HPUT.out _ HM6.out.d).mono ?_); rintro x w7 ⟨a7, c7, rfl, hd7, hb7⟩; have HM7 := Lib.hid ((HM6.out.below hb7).setd hd7); clear hb7 hd7))
            | fail)
          refine ⟨⟨k + 1, D2, N2, 0, _, _, xa6, xc6, rfl, rfl, by rw [HNN.out]; go_num, rfl, by go_num, by omega, by omega, HPP.out, by rw [HST.out]; exact HM7.out⟩, ?_⟩
          simp [intOf]
          omega
        · have hE3 : (E2 == 0) = false := by simpa using hE2
          have hN : N2 = N := by rcases HN2.out with ⟨h, _⟩ | ⟨_, h⟩; exact absurd h hE2; exact h
          subst hN
          clear HN2 hE2
          go_wp2_with (first
            | (go_at_call 16; ((with_reducible refine HC.out.mono ?_); rintro x w1 ⟨rfl, hb1⟩; have HM2 := Lib.hid ((HM1.out.below hb1).below (box_b w1 (.cells (#[.int .u64 y.a, .bool y.d, .int .u8 y.r.k, .int .u8 y.r.s, .int .u8 y.r.u, .int .u8 y.r.p, .int .u8 y.r.m, .bool y.r.g, .int .u32 y.r.v, .int .u64 y.r.a, .string y.r.t]) 43))); have HLT := Lib.hid (fun j hj => (World.ownsRow.lt (HM1.out.below hb1).x j hj).2); clear hb1))
            | (at_builtin; go_loud ((refine wpList_append_vs rfl _ _ rfl w.heap.size _ (cutK L k) rfl (World.ownsRow.alloc HM2.out.x _) (some ⟨w1.heap.size + 1, 0, none⟩) 1 1 [y] rfl rfl (vl_new2 w1 y) (by rw [HLEN.out]; omega) (by have := HM2.out.b.size; simp at this ⊢; omega) ?_; intro v6 w5 hO6 hg6 _; have HM5 := Lib.hid (HM2.out.app hO6 hg6); obtain ⟨e0, e1, e2, e3, e4, e5, e6, e7, e8, e9, e10⟩ := elev_blk (((Blk.new w1 43 (#[.int .u64 y.a, .bool y.d, .int .u8 y.r.k, .int .u8 y.r.s, .int .u8 y.r.u, .int .u8 y.r.p, .int .u8 y.r.m, .bool y.r.g, .int .u32 y.r.v, .int .u64 y.r.a, .string y.r.t])).alloc _).grown hg6 (.inr fun e => by have := HLT.out _ e; omega)); clear hO6 hg6; obtain ⟨xa6, xc6, hv6, _⟩ := HM5.out.x.vl; rw [List.length_append, HLEN.out] at hv6; subst hv6)))
            | (go_at_call 18; ((with_reducible refine (HOF.out _).mono ?_); rintro x w6 ⟨rfl, hb6⟩; have HM6 := Lib.hid (HM5.out.below hb6); clear hb6))
            | (go_at_call 17; ((with_reducible refine (HPUT.out _ HM6.out.d).mono ?_); rintro x w7 ⟨a7, c7, rfl, hd7, hb7⟩; have HM7 := Lib.hid ((HM6.out.below hb7).setd hd7); clear hb7 hd7))
            | fail)
          refine ⟨⟨k + 1, D2, N2, E2, _, _, xa6, xc6, rfl, rfl, rfl, rfl, by go_num, by omega, by omega, HPP.out, by rw [HST.out]; exact HM7.out⟩, ?_⟩
          simp [intOf]
          omega
      · have hE2 : (E != 0) = true := by simpa using hE
        have HP := Lib.hid (HPS.out.trans (if_pos hE))
        clear hE
        go_wp2_with (first
          | (go_at_call 16; ((with_reducible refine HC.out.mono ?_); rintro x w1 ⟨rfl, hb1⟩; have HM2 := Lib.hid ((HM1.out.below hb1).below (box_b w1 (.cells (#[.int .u64 y.a, .bool y.d, .int .u8 y.r.k, .int .u8 y.r.s, .int .u8 y.r.u, .int .u8 y.r.p, .int .u8 y.r.m, .bool y.r.g, .int .u32 y.r.v, .int .u64 y.r.a, .string y.r.t]) 43))); have HLT := Lib.hid (fun j hj => (World.ownsRow.lt (HM1.out.below hb1).x j hj).2); clear hb1))
          | (at_builtin; go_loud ((refine wpList_append_vs rfl _ _ rfl w.heap.size _ (cutK L k) rfl (World.ownsRow.alloc HM2.out.x _) (some ⟨w1.heap.size + 1, 0, none⟩) 1 1 [y] rfl rfl (vl_new2 w1 y) (by rw [HLEN.out]; omega) (by have := HM2.out.b.size; simp at this ⊢; omega) ?_; intro v6 w5 hO6 hg6 _; have HM5 := Lib.hid (HM2.out.app hO6 hg6); clear hO6 hg6; obtain ⟨xa6, xc6, hv6, _⟩ := HM5.out.x.vl; rw [List.length_append, HLEN.out] at hv6; subst hv6)))
          | fail)
        refine ⟨⟨k + 1, D, N, E, la, lc, xa6, xc6, rfl, rfl, rfl, rfl, by go_num, by omega, by omega, HP.out, by rw [HST.out]; exact HM5.out⟩, ?_⟩
        simp [intOf]
        omega
    · obtain ⟨m, hm⟩ : ∃ m, cutK L k = m := ⟨_, rfl⟩
      have hlen := cutK_len hk
      have hDl : D.length ≤ k := by have := puts_len (cutK L k) []; rw [hp] at this; simp [hlen] at this; exact this
      have hXok := cutK_ok hok k
      have hDok : ∀ v ∈ D, v.ok := fun v hv => by
        have := puts_mem v (cutK L k) []
        rw [hp] at this
        rcases this hv with h1 | h1
        · simp at h1
        · exact hXok v h1
      have hcs : CS wr w.heap.size w.heap.size none [] := ⟨_, hM.c, World.ownsRow_nil _ _ _ _, rfl⟩
      have hgx : ∀ p, xa = some p → ¬ (p.block = w.heap.size ∨ (none : Option Nat) = some p.block) := by
        rintro p rfl (e | e)
        · rcases own_ne hM.x hM.c (by simp) with e2 | e2
          · simp [Value.ownBlock] at e2
          · exact e2 (by simp [Value.ownBlock, e])
        · cases e
      obtain ⟨xa', xc', hxx, hvl⟩ := hM.x.vl
      simp only [Value.slice.injEq] at hxx
      obtain ⟨rfl, -, rfl⟩ := hxx
      have hput := put_any w.heap.size w.heap.size none xa k xc [] (cutK L k) wr hvl hlen hXok hcs hM.b.size (by simp; omega) hgx
      rw [hp] at hput
      simp only at hput
      have HPut := Lib.hid hput
      have HK := Lib.hid fun (W : World) => known_any W
      have HD := Lib.hid hM.d
      have HB := Lib.hid hM.b
      have HC := Lib.hid hM.c
      have HDok := Lib.hid hDok
      have hl20 : D.length ≤ 20 := by omega
      have HDl := Lib.hid hl20
      clear hlen hDl hXok hDok hcs hgx hvl hput hM hl20
      rcases (by omega : ¬ k < L.length ∨ (k < L.length ∧ ¬ k < 20)) with h1 | ⟨h1, h2⟩
      · have h1i : (L.length : Int) ≤ (k : Int) := by omega
        clear hlt hp hm
        go_wp2_with (first
          | (go_at_call 19; ((with_reducible refine HPut.out.mono ?_); rintro x w2 ⟨rfl, hD2⟩; obtain ⟨hb2, q2, hC2, hq2⟩ := hD2.get HB.out (Nat.le_refl _) (fun j hj => by cases hj); have HL2 := Lib.hid (HD.out.kept hD2.s (fun b cs hb => by rintro (e | e); subst e; have := (hb.one HC.out).2; simp at this; cases e)); have HC2 := Lib.hid hC2; have HB2 := Lib.hid hb2; clear hD2 hb2 hC2 hq2))
          | (go_at_call 12; ((with_reducible refine (HK.out _).mono ?_); rintro x w3 ⟨rfl, hb3⟩; have HC3 := Lib.hid (HC2.out.below hb3); have HL3 := Lib.hid (HL2.out.below hb3); have HB3 := Lib.hid (bthen HB2.out hb3); clear hb3))
          | (go_at_call 22; ((with_reducible refine (holds_any _ _ _ _ _ _ D _ rfl (by have := HDl.out; omega) HC3.out HL3.out HDok.out).mono ?_); rintro x w4 ⟨rfl, hb4⟩))
          | fail)
        go_ret
        exact ⟨rfl, bthen HB3.out hb4⟩
      · have h1i : (k : Int) < (L.length : Int) := by omega
        have h2i : (20 : Int) ≤ (k : Int) := by omega
        clear hlt hp hm
        go_wp2_with (first
          | (go_at_call 19; ((with_reducible refine HPut.out.mono ?_); rintro x w2 ⟨rfl, hD2⟩; obtain ⟨hb2, q2, hC2, hq2⟩ := hD2.get HB.out (Nat.le_refl _) (fun j hj => by cases hj); have HL2 := Lib.hid (HD.out.kept hD2.s (fun b cs hb => by rintro (e | e); subst e; have := (hb.one HC.out).2; simp at this; cases e)); have HC2 := Lib.hid hC2; have HB2 := Lib.hid hb2; clear hD2 hb2 hC2 hq2))
          | (go_at_call 12; ((with_reducible refine (HK.out _).mono ?_); rintro x w3 ⟨rfl, hb3⟩; have HC3 := Lib.hid (HC2.out.below hb3); have HL3 := Lib.hid (HL2.out.below hb3); have HB3 := Lib.hid (bthen HB2.out hb3); clear hb3))
          | (go_at_call 22; ((with_reducible refine (holds_any _ _ _ _ _ _ D _ rfl (by have := HDl.out; omega) HC3.out HL3.out HDok.out).mono ?_); rintro x w4 ⟨rfl, hb4⟩))
          | fail)
        go_ret
        exact ⟨rfl, bthen HB3.out hb4⟩
end Go.Proofs.Ytpbdgfgjlccapaa.cw
