/-
  The walk of the law RecordBytes.
-/
import Derived.Test.YtaekpejpcafnkaaRecW
namespace Go.Proofs.Ytaekpejpcafnkaa.rw
open Go.RowKit Go.Proofs.Ytaekpejpcafnkaa.ba Go.Proofs.Ytaekpejpcafnkaa.rp Go.Proofs.Ytaekpejpcafnkaa.dp Go.Proofs.Ytaekpejpcafnkaa.dw Go.Proofs.Ytaekpejpcafnkaa.wp Go.Proofs.Ytaekpejpcafnkaa.ww
set_option maxRecDepth 8000
set_option linter.unusedVariables false
attribute [local go_sem ↓] Go.wp_at_zero Go.wp_at_succ

/-- How many kinds are there among the first j. -/
def thereN (C : Int → Nat) : Nat → Nat
  | 0 => 0
  | j + 1 => thereN C j + one (C j)
theorem thereN_all (C : Int → Nat) : thereN C 7 = there C := by
  simp only [thereN, there]
  simp only [show ((0 : Nat) : Int) = 0 from rfl, show ((1 : Nat) : Int) = 1 from rfl, show ((2 : Nat) : Int) = 2 from rfl, show ((3 : Nat) : Int) = 3 from rfl, show ((4 : Nat) : Int) = 4 from rfl, show ((5 : Nat) : Int) = 5 from rfl, show ((6 : Nat) : Int) = 6 from rfl]
  omega
theorem thereN_le (C : Int → Nat) (j : Nat) : thereN C j ≤ j := by
  induction j with
  | zero => exact Nat.le_refl _
  | succ j ih =>
    rw [thereN]
    have : one (C j) ≤ 1 := by unfold one; split <;> omega
    omega
theorem cnt_look {W : World} {b n j cn : Nat} {C : Int → Nat} (h : Cnt W b n C) (h6 : j ≤ 6) (hc : cn = C j) : ∀ m, (Instr.lookup 47 (.map (some b)) (.int .u8 (j : Int)) false).run Try.prog (W.drewN m) = .ok (.int .i64 (cn : Int)) (W.drewN m) := by
  intro m
  obtain ⟨D, d1, d2, d3, d4⟩ := h
  have d1' : (W.drewN m).ownsMap Try.prog 5 (plainElem Try.prog 3) b n D := d1
  obtain ⟨c, h1, h2, _⟩ := d1'.lookup_int lawU8 Try.underlying47 Try.underlying3 (zeroInt _) (key_u8 (k := (j : Int)) (by omega) (by omega))
  have h3 := cnt_read d3 (by omega) (by omega) hc h2
  rw [h3] at h1
  exact h1
theorem own_below_ne {b : Value} {n : Nat} (h : ∀ j, b.ownBlock = some j → j < n) : b.ownBlock = none ∨ b.ownBlock ≠ some n := by
  cases hb : b.ownBlock with
  | none => exact .inl rfl
  | some j => exact .inr (fun e => by have := h j hb; simp at e; omega)
theorem cnt_cell {W : World} {g k cn : Nat} {C : Int → Nat} (h : Blk W g 44 (kcells C)) (h6 : k ≤ 6) (hc : cn = C k) : W.cell? ⟨g, k, none⟩ = some (.int .i64 (cn : Int)) := by
  rw [h.cell, kcells_at C k h6, hc]
set_option maxRecDepth 100000 in
set_option maxHeartbeats 8000000 in
theorem recordBytes_any (a : Option Addr) (len cap : Nat) (l : List R) (w : World) (hlc : len ≤ cap) (hcm : cap ≤ maxLen) (hlen : l.length = len) (hL : Recs w a l) (hok : ∀ r ∈ l, r.ok) :
    Calls Try.prog 5 #[.slice a len cap] w fun x w' => x = .returned (.bool true) ∧ Below w.heap.size w w' := by
  obtain ⟨i0, hi, hz0, hz1, hz2⟩ := info_parts infoR
  obtain ⟨i5, hi5, hz50, hz51, hz52⟩ := info_parts info5
  have hRB0 : RB w (w.alloc (.cells (kcells fun _ => 0) 44)) (.slice none 0 0) (.slice none 0 0) [] 0 [] (fun _ => 0) := ⟨World.ownsRow_nil _ _ _ _, World.ownsRow_nil _ _ _ _, Blk.new w _ _, box_below w _⟩
  have HRB0 := Lib.hid hRB0
  have HLen := Lib.hid hlen
  clear hRB0 hlen
  unfold maxLen at hcm
  go_enter Try.func5, Try.ntmps5
  go_wp2_with fail
  go_loopw [3, 4, 6, 7] (fun x b t i wr => ∃ (k : Nat) (X : List R), k ≤ len ∧ k ≤ 10 ∧ i = .int .i64 k ∧ Hid (X = (l.take k).map cutR) ∧ t = .int .i64 (wantF X) ∧ RB w wr x b X k (encX X) (cntF X)) (fun _ _ _ i _ => 10 - (intOf i).toNat)
  case atStart => exact ⟨0, [], Nat.zero_le _, Nat.zero_le _, rfl, rfl, rfl, HRB0.out⟩
  case round =>
    obtain ⟨k, X, hk, hk10, rfl, HX, rfl, hRB⟩ := hrel
    obtain ⟨xa, xc, hxv, _, _⟩ := own_form hRB.x
    subst hxv
    obtain ⟨ba, bc, hbv, _, _⟩ := own_form hRB.b
    subst hbv
    by_cases hgo : k < len ∧ k < 10
    · obtain ⟨hlt, hlt10⟩ := hgo
      obtain ⟨r0, hrk⟩ := some_at l (i := k) (by rw [HLen.out]; exact hlt)
      have hr0 := hok r0 (List.mem_of_getElem? hrk)
      rcases hL with h0 | ⟨b, off, rfl, hc⟩
      · subst h0; simp at hrk
      obtain ⟨c0, c1, c2, c3, c4, c5, c6, c7, c8⟩ := recs_cells hRB.bel (hc k r0 hrk)
      obtain ⟨r, hre⟩ : ∃ r, r = cutR r0 := ⟨_, rfl⟩
      have hro : r.ok := by rw [hre]; exact (cutR_ok hr0).1
      have HCut : Hid (∀ W : World, Calls Try.prog 13 #[.agg #[.int .u8 r0.k, .int .u8 r0.s, .int .u8 r0.u, .int .u8 r0.p, .int .u8 r0.m, .bool r0.g, .int .u32 r0.v, .int .u64 r0.a, .string r0.t]] W fun x w' => x = .returned (.agg #[.int .u8 r.k, .int .u8 r.s, .int .u8 r.u, .int .u8 r.p, .int .u8 r.m, .bool r.g, .int .u32 r.v, .int .u64 r.a, .string r.t]) ∧ Below W.heap.size W w') := Lib.hid fun W => by rw [hre]; exact cut_any r0 W hr0
      have hX2 : Hid (X ++ [r] = (l.take (k + 1)).map cutR) := by
        show _ = _
        obtain ⟨h1, h2⟩ := List.getElem?_eq_some_iff.1 hrk
        rw [List.take_succ_eq_append_getElem h1, h2, List.map_append, HX.out, hre]
        rfl
      have HOf := Lib.hid fun (W : World) => of_any r W hro
      have HDC := Lib.hid fun (W : World) => rcheck_any r W hro
      have HCK := Lib.hid fun (W : World) => check_any r W hro
      have hltI : (k : Int) < (len : Int) := by omega
      have hlt10I : (k : Int) < 10 := by omega
      have hk0 : (0 : Int) ≤ (k : Int) := Int.natCast_nonneg _
      have HRB := Lib.hid hRB
      have hrlt := hRB.lt
      have HWN := Lib.hid (wantF_snoc X r)
      have HEN := Lib.hid (encX_snoc X r)
      have hXl : X.length = k := by rw [HX.out, List.length_map, List.length_take, HLen.out]; omega
      have hEl := encX_len X
      have HXl := Lib.hid hXl
      have hEl2 : (encX X).length ≤ 2000 := by omega
      have hcl : cntF X r.k.toNat ≤ 10 := by have := cnt_le X r.k.toNat; omega
      clear hc hrk hr0 hre hRB hXl hEl
      generalize hEn : (encX X).length = en at *
      have HEnn := Lib.hid hEn
      clear hEn
      by_cases hck : checkF r = 0
      · obtain ⟨q1, q6⟩ := checkF_kind hck
        have ht60 := (right_parts hck).2.2
        have HBy := Lib.hid fun (W : World) => rrbytes_any r W hro q1 q6 ht60
        have HEL := Lib.hid (encR_le r ht60)
        have HCN := Lib.hid (cnt_snoc_right X r hck)
        have hkn : ((r.k.toNat : Nat) : Int) = r.k := by omega
        have HKN := Lib.hid hkn
        rw [hck] at HDC HCK HWN
        rw [if_pos hck] at HEN
        obtain ⟨cn, hcn⟩ : ∃ cn, cn = cntF X r.k.toNat := ⟨_, rfl⟩
        rw [← hcn] at hcl
        have HCNN := Lib.hid hcn
        have hi7 : r.k < 7 := by omega
        have hi7n : r.k.toNat < 7 := by omega
        clear hck hkn hcn
        have tok1 : True := trivial
        have tok2 : True := trivial
        by_cases hw0 : wantF X = 0
        · rw [hw0]
          have HW0 := Lib.hid hw0
          clear hw0
          go_wp2_with
            (first
              | (go_at_call 13; ((with_reducible refine (HCut.out _).mono ?_); rintro x W1 ⟨rfl, hb1⟩; have H1 := Lib.hid (HRB.out.below hb1); have HBL := Lib.hid (H1.out.blt); have hzz1 := hb1.size; clear hb1))
              | (at_builtin; have _t := tok1; go_loud ((refine wpList_append_blk rfl _ _ 43 rfl (w.heap.size + 1) 30 i0 _ 9 40 Try.underlying43 hi hz0 hz1 hz2 rfl (by decide) (.slice xa k xc) k (X.flatMap rcells) rfl ((H1.out.below (box_below W1 _)).x) [.int .u8 r.k, .int .u8 r.s, .int .u8 r.u, .int .u8 r.p, .int .u8 r.m, .bool r.g, .int .u32 r.v, .int .u64 r.a, .string r.t] rfl (by simp [Value.oneCell']) _ (W1.heap.size + 1) (by simp) rfl (by omega) (by omega) (by simp; omega) ?_; intro v3 W3 hown3 hg3; have HS := Lib.hid (RB.more (r := r) (H1.out.below (box_below W1 _)) hg3 hown3); have HQ := Lib.hid (H1.out.box hg3); obtain ⟨e0, e1, e2, e3, e4, e5, e6, e7, e8⟩ := nine_cells (r := r) HQ.out; clear hown3 hg3 tok1)))
              | (go_at_call 9; ((with_reducible refine (HOf.out _).mono ?_); rintro x W4 ⟨rfl, hb⟩; replace HS := Lib.hid (HS.out.below hb); replace HQ := Lib.hid (HQ.out.below hb); clear hb e0 e1 e2 e3 e4 e5 e6 e7 e8; obtain ⟨e0, e1, e2, e3, e4, e5, e6, e7, e8⟩ := nine_cells (r := r) HQ.out))
              | (go_at_call 15; ((with_reducible refine (HDC.out _).mono ?_); rintro x W5 ⟨rfl, hb⟩; replace HS := Lib.hid (HS.out.below hb); replace HQ := Lib.hid (HQ.out.below hb); clear hb e0 e1 e2 e3 e4 e5 e6 e7 e8; obtain ⟨e0, e1, e2, e3, e4, e5, e6, e7, e8⟩ := nine_cells (r := r) HQ.out))
              | (go_at_call 14; ((with_reducible refine (HCK.out _).mono ?_); rintro x W6 ⟨rfl, hb⟩; replace HS := Lib.hid (HS.out.below hb); replace HQ := Lib.hid (HQ.out.below hb); clear hb e0 e1 e2 e3 e4 e5 e6 e7 e8; obtain ⟨e0, e1, e2, e3, e4, e5, e6, e7, e8⟩ := nine_cells (r := r) HQ.out))
              | (go_at_call 16; ((with_reducible refine (HBy.out _).mono ?_); rintro x W8 ⟨a8, c8', rfl, hL8, hb⟩; have HL8 := Lib.hid hL8; clear hL8; replace HS := Lib.hid (HS.out.below hb); replace HQ := Lib.hid (HQ.out.below hb); clear hb e0 e1 e2 e3 e4 e5 e6 e7 e8; obtain ⟨e0, e1, e2, e3, e4, e5, e6, e7, e8⟩ := nine_cells (r := r) HQ.out))
              | (at_builtin; have _t := tok2; go_loud ((refine wpList_append_lst_at rfl _ _ 22 rfl (w.heap.size + 1) 5 .u8 i5 (.int .u8 0) 1 Try.underlying22 hi5 hz50 hz51 hz52 rfl (.slice ba en bc) _ (encX X) rfl HS.out.b a8 (encR r).length c8' (encR r) rfl rfl HL8.out (by have h1 := HEnn.out; have h2 := HEL.out; omega) (by omega) (by have := HS.out.lt; omega) ?_; intro v9 W9 hown9 hg9 _; have HS9 := Lib.hid (RB.bytes HS.out hg9 hown9); have HQ9 := Lib.hid (HQ.out.grown hg9 (own_below_ne HBL.out)); have f0 : W9.cell? ⟨W1.heap.size, 0, none⟩ = some (.int .u8 r.k) := HQ9.out.cell 0; have f1 : W9.cell? ⟨w.heap.size, r.k.toNat, none⟩ = some (.int .i64 (cn : Int)) := cnt_cell HS9.out.k (by omega) HCNN.out; have f2 : W9.frozen? ⟨w.heap.size, r.k.toNat, none⟩ = false := HS9.out.k.frozen _; clear hown9 hg9 tok2)))
              | fail)
          have hfin : RB w (W9.setCell ⟨w.heap.size, r.k.toNat, none⟩ (.int .i64 ((cn : Int) + 1))) v3 v9 (X ++ [r]) (k + 1) (encX (X ++ [r])) (cntF (X ++ [r])) := by
            have h1 := HS9.out.count (k := r.k.toNat) (by omega)
            rw [← HCNN.out] at h1
            have e : bump (cntF X) r.k = bump (cntF X) ((r.k.toNat : Nat) : Int) := by rw [HKN.out]
            rw [HEN.out, HCN.out, e]
            exact h1
          have HFin := Lib.hid hfin
          clear hfin
          go_roundw
          case rel => exact ⟨k + 1, X ++ [r], by omega, by omega, by go_num, hX2, by rw [HWN.out, if_pos HW0.out], HFin.out⟩
          case measure => simp [intOf]; omega
        · have hw1 : (wantF X == 0) = false := by simpa using hw0
          have HW0 := Lib.hid hw0
          clear hw0
          go_wp2_with
            (first
              | (go_at_call 13; ((with_reducible refine (HCut.out _).mono ?_); rintro x W1 ⟨rfl, hb1⟩; have H1 := Lib.hid (HRB.out.below hb1); have HBL := Lib.hid (H1.out.blt); have hzz1 := hb1.size; clear hb1))
              | (at_builtin; have _t := tok1; go_loud ((refine wpList_append_blk rfl _ _ 43 rfl (w.heap.size + 1) 30 i0 _ 9 40 Try.underlying43 hi hz0 hz1 hz2 rfl (by decide) (.slice xa k xc) k (X.flatMap rcells) rfl ((H1.out.below (box_below W1 _)).x) [.int .u8 r.k, .int .u8 r.s, .int .u8 r.u, .int .u8 r.p, .int .u8 r.m, .bool r.g, .int .u32 r.v, .int .u64 r.a, .string r.t] rfl (by simp [Value.oneCell']) _ (W1.heap.size + 1) (by simp) rfl (by omega) (by omega) (by simp; omega) ?_; intro v3 W3 hown3 hg3; have HS := Lib.hid (RB.more (r := r) (H1.out.below (box_below W1 _)) hg3 hown3); have HQ := Lib.hid (H1.out.box hg3); obtain ⟨e0, e1, e2, e3, e4, e5, e6, e7, e8⟩ := nine_cells (r := r) HQ.out; clear hown3 hg3 tok1)))
              | (go_at_call 9; ((with_reducible refine (HOf.out _).mono ?_); rintro x W4 ⟨rfl, hb⟩; replace HS := Lib.hid (HS.out.below hb); replace HQ := Lib.hid (HQ.out.below hb); clear hb e0 e1 e2 e3 e4 e5 e6 e7 e8; obtain ⟨e0, e1, e2, e3, e4, e5, e6, e7, e8⟩ := nine_cells (r := r) HQ.out))
              | (go_at_call 15; ((with_reducible refine (HDC.out _).mono ?_); rintro x W5 ⟨rfl, hb⟩; replace HS := Lib.hid (HS.out.below hb); replace HQ := Lib.hid (HQ.out.below hb); clear hb e0 e1 e2 e3 e4 e5 e6 e7 e8; obtain ⟨e0, e1, e2, e3, e4, e5, e6, e7, e8⟩ := nine_cells (r := r) HQ.out))
              | (go_at_call 14; ((with_reducible refine (HCK.out _).mono ?_); rintro x W6 ⟨rfl, hb⟩; replace HS := Lib.hid (HS.out.below hb); replace HQ := Lib.hid (HQ.out.below hb); clear hb e0 e1 e2 e3 e4 e5 e6 e7 e8; obtain ⟨e0, e1, e2, e3, e4, e5, e6, e7, e8⟩ := nine_cells (r := r) HQ.out))
              | (go_at_call 16; ((with_reducible refine (HBy.out _).mono ?_); rintro x W8 ⟨a8, c8', rfl, hL8, hb⟩; have HL8 := Lib.hid hL8; clear hL8; replace HS := Lib.hid (HS.out.below hb); replace HQ := Lib.hid (HQ.out.below hb); clear hb e0 e1 e2 e3 e4 e5 e6 e7 e8; obtain ⟨e0, e1, e2, e3, e4, e5, e6, e7, e8⟩ := nine_cells (r := r) HQ.out))
              | (at_builtin; have _t := tok2; go_loud ((refine wpList_append_lst_at rfl _ _ 22 rfl (w.heap.size + 1) 5 .u8 i5 (.int .u8 0) 1 Try.underlying22 hi5 hz50 hz51 hz52 rfl (.slice ba en bc) _ (encX X) rfl HS.out.b a8 (encR r).length c8' (encR r) rfl rfl HL8.out (by have h1 := HEnn.out; have h2 := HEL.out; omega) (by omega) (by have := HS.out.lt; omega) ?_; intro v9 W9 hown9 hg9 _; have HS9 := Lib.hid (RB.bytes HS.out hg9 hown9); have HQ9 := Lib.hid (HQ.out.grown hg9 (own_below_ne HBL.out)); have f0 : W9.cell? ⟨W1.heap.size, 0, none⟩ = some (.int .u8 r.k) := HQ9.out.cell 0; have f1 : W9.cell? ⟨w.heap.size, r.k.toNat, none⟩ = some (.int .i64 (cn : Int)) := cnt_cell HS9.out.k (by omega) HCNN.out; have f2 : W9.frozen? ⟨w.heap.size, r.k.toNat, none⟩ = false := HS9.out.k.frozen _; clear hown9 hg9 tok2)))
              | fail)
          have hfin : RB w (W9.setCell ⟨w.heap.size, r.k.toNat, none⟩ (.int .i64 ((cn : Int) + 1))) v3 v9 (X ++ [r]) (k + 1) (encX (X ++ [r])) (cntF (X ++ [r])) := by
            have h1 := HS9.out.count (k := r.k.toNat) (by omega)
            rw [← HCNN.out] at h1
            have e : bump (cntF X) r.k = bump (cntF X) ((r.k.toNat : Nat) : Int) := by rw [HKN.out]
            rw [HEN.out, HCN.out, e]
            exact h1
          have HFin := Lib.hid hfin
          clear hfin
          go_roundw
          case rel => exact ⟨k + 1, X ++ [r], by omega, by omega, by go_num, hX2, by rw [HWN.out, if_neg HW0.out], HFin.out⟩
          case measure => simp [intOf]; omega
      · have hck1 : (checkF r == 0) = false := by simpa using hck
        have HCN := Lib.hid (cnt_snoc_wrong X r hck)
        have HCKr := Lib.hid hck
        rw [if_neg hck, List.append_nil] at HEN
        clear hck hcl
        have tok1 : True := trivial
        have fin : ∀ (W2 : World) (v3 : Value), RB w W2 v3 (.slice ba en bc) (X ++ [r]) (k + 1) (encX X) (cntF X) → RB w W2 v3 (.slice ba en bc) (X ++ [r]) (k + 1) (encX (X ++ [r])) (cntF (X ++ [r])) := fun W2 v3 h => by rw [HEN.out, HCN.out]; exact h
        have Fin := Lib.hid fin
        clear fin
        generalize checkF r = E at *
        by_cases hw0 : wantF X = 0
        · rw [hw0]
          have HW0 := Lib.hid hw0
          clear hw0
          go_wp2_with
            (first
              | (go_at_call 13; ((with_reducible refine (HCut.out _).mono ?_); rintro x W1 ⟨rfl, hb1⟩; have H1 := Lib.hid (HRB.out.below hb1); have HBL := Lib.hid (H1.out.blt); have hzz1 := hb1.size; clear hb1))
              | (at_builtin; have _t := tok1; go_loud ((refine wpList_append_blk rfl _ _ 43 rfl (w.heap.size + 1) 30 i0 _ 9 40 Try.underlying43 hi hz0 hz1 hz2 rfl (by decide) (.slice xa k xc) k (X.flatMap rcells) rfl ((H1.out.below (box_below W1 _)).x) [.int .u8 r.k, .int .u8 r.s, .int .u8 r.u, .int .u8 r.p, .int .u8 r.m, .bool r.g, .int .u32 r.v, .int .u64 r.a, .string r.t] rfl (by simp [Value.oneCell']) _ (W1.heap.size + 1) (by simp) rfl (by omega) (by omega) (by simp; omega) ?_; intro v3 W3 hown3 hg3; have HS := Lib.hid (RB.more (r := r) (H1.out.below (box_below W1 _)) hg3 hown3); have HQ := Lib.hid (H1.out.box hg3); obtain ⟨e0, e1, e2, e3, e4, e5, e6, e7, e8⟩ := nine_cells (r := r) HQ.out; clear hown3 hg3 tok1)))
              | (go_at_call 9; ((with_reducible refine (HOf.out _).mono ?_); rintro x W4 ⟨rfl, hb⟩; replace HS := Lib.hid (HS.out.below hb); replace HQ := Lib.hid (HQ.out.below hb); clear hb e0 e1 e2 e3 e4 e5 e6 e7 e8; obtain ⟨e0, e1, e2, e3, e4, e5, e6, e7, e8⟩ := nine_cells (r := r) HQ.out))
              | (go_at_call 15; ((with_reducible refine (HDC.out _).mono ?_); rintro x W5 ⟨rfl, hb⟩; replace HS := Lib.hid (HS.out.below hb); replace HQ := Lib.hid (HQ.out.below hb); clear hb e0 e1 e2 e3 e4 e5 e6 e7 e8; obtain ⟨e0, e1, e2, e3, e4, e5, e6, e7, e8⟩ := nine_cells (r := r) HQ.out))
              | (go_at_call 14; ((with_reducible refine (HCK.out _).mono ?_); rintro x W6 ⟨rfl, hb⟩; replace HS := Lib.hid (HS.out.below hb); replace HQ := Lib.hid (HQ.out.below hb); clear hb e0 e1 e2 e3 e4 e5 e6 e7 e8; obtain ⟨e0, e1, e2, e3, e4, e5, e6, e7, e8⟩ := nine_cells (r := r) HQ.out))
              | fail)
          go_roundw
          case rel => exact ⟨k + 1, X ++ [r], by omega, by omega, by go_num, hX2, by rw [HWN.out, if_pos HW0.out], Fin.out _ _ HS.out⟩
          case measure => simp [intOf]; omega
        · have hw1 : (wantF X == 0) = false := by simpa using hw0
          have HW0 := Lib.hid hw0
          clear hw0
          go_wp2_with
            (first
              | (go_at_call 13; ((with_reducible refine (HCut.out _).mono ?_); rintro x W1 ⟨rfl, hb1⟩; have H1 := Lib.hid (HRB.out.below hb1); have HBL := Lib.hid (H1.out.blt); have hzz1 := hb1.size; clear hb1))
              | (at_builtin; have _t := tok1; go_loud ((refine wpList_append_blk rfl _ _ 43 rfl (w.heap.size + 1) 30 i0 _ 9 40 Try.underlying43 hi hz0 hz1 hz2 rfl (by decide) (.slice xa k xc) k (X.flatMap rcells) rfl ((H1.out.below (box_below W1 _)).x) [.int .u8 r.k, .int .u8 r.s, .int .u8 r.u, .int .u8 r.p, .int .u8 r.m, .bool r.g, .int .u32 r.v, .int .u64 r.a, .string r.t] rfl (by simp [Value.oneCell']) _ (W1.heap.size + 1) (by simp) rfl (by omega) (by omega) (by simp; omega) ?_; intro v3 W3 hown3 hg3; have HS := Lib.hid (RB.more (r := r) (H1.out.below (box_below W1 _)) hg3 hown3); have HQ := Lib.hid (H1.out.box hg3); obtain ⟨e0, e1, e2, e3, e4, e5, e6, e7, e8⟩ := nine_cells (r := r) HQ.out; clear hown3 hg3 tok1)))
              | (go_at_call 9; ((with_reducible refine (HOf.out _).mono ?_); rintro x W4 ⟨rfl, hb⟩; replace HS := Lib.hid (HS.out.below hb); replace HQ := Lib.hid (HQ.out.below hb); clear hb e0 e1 e2 e3 e4 e5 e6 e7 e8; obtain ⟨e0, e1, e2, e3, e4, e5, e6, e7, e8⟩ := nine_cells (r := r) HQ.out))
              | (go_at_call 15; ((with_reducible refine (HDC.out _).mono ?_); rintro x W5 ⟨rfl, hb⟩; replace HS := Lib.hid (HS.out.below hb); replace HQ := Lib.hid (HQ.out.below hb); clear hb e0 e1 e2 e3 e4 e5 e6 e7 e8; obtain ⟨e0, e1, e2, e3, e4, e5, e6, e7, e8⟩ := nine_cells (r := r) HQ.out))
              | (go_at_call 14; ((with_reducible refine (HCK.out _).mono ?_); rintro x W6 ⟨rfl, hb⟩; replace HS := Lib.hid (HS.out.below hb); replace HQ := Lib.hid (HQ.out.below hb); clear hb e0 e1 e2 e3 e4 e5 e6 e7 e8; obtain ⟨e0, e1, e2, e3, e4, e5, e6, e7, e8⟩ := nine_cells (r := r) HQ.out))
              | fail)
          go_roundw
          case rel => exact ⟨k + 1, X ++ [r], by omega, by omega, by go_num, hX2, by rw [HWN.out, if_neg HW0.out], Fin.out _ _ HS.out⟩
          case measure => simp [intOf]; omega
    · have hXl : X.length = k := by rw [HX.out, List.length_map, List.length_take, HLen.out]; omega
      have hXok : ∀ r ∈ X, r.ok := fun r hr => by
        rw [HX.out] at hr
        obtain ⟨q, hq, rfl⟩ := List.mem_map.1 hr
        exact (cutR_ok (hok q (List.mem_of_mem_take hq))).1
      obtain ⟨bl, hbl⟩ : ∃ bl, bl = (recF X []).1 := ⟨_, rfl⟩
      have hbw : (wantF X = 0 ∧ bl = encX X) ∨ (wantF X ≠ 0 ∧ bl = []) := by
        rcases want_ways X with ⟨v1, v2⟩ | ⟨v1, v2⟩
        · exact .inl ⟨v1, by rw [hbl, v2]⟩
        · exact .inr ⟨v1, by rw [hbl, v2]⟩
      have hRs := Recs.own hRB.x
      have HRBY : Hid (Calls Try.prog 11 #[.slice xa k xc] wr fun x w' => ∃ a4 c4, x = .returned (.tuple #[.slice a4 bl.length c4, .int .i64 (wantF X)]) ∧ Lst .u8 w' a4 bl ∧ Below wr.heap.size wr w') :=
        Lib.hid ((recbytes_any xa k xc X wr hXl (by omega) hRs hXok).mono fun x w' ⟨a4, c4, p1, _, _, p4, _, p6⟩ => ⟨a4, c4, by rw [hbl]; exact p1, by rw [hbl]; exact p4, p6⟩)
      have HKI := Lib.hid fun (W : World) (hb : Below wr.heap.size wr W) => kinds_any xa k xc X W hXl (by omega) (hRs.below hb) hXok
      have hel := encX_len X
      have hell : (encX X).length ≤ 2000 := by omega
      have HSm : Hid (∀ (W : World) (a4 : Option Addr) (c4 : Nat), bl = encX X → Lst .u8 W a4 bl → Lst .u8 W ba (encX X) → Calls Try.prog 12 #[.slice a4 bl.length c4, .slice ba (encX X).length bc] W fun z w' => z = .returned (.bool true) ∧ Below W.heap.size W w') :=
        Lib.hid fun W a4 c4 he h1 h2 => by
          subst he
          exact (same_any a4 ba c4 bc (encX X) (encX X) W (by omega) (by omega) h1 h2).mono fun z w' ⟨q1, q2⟩ => ⟨by simpa using q1, q2⟩
      have HRB := Lib.hid hRB
      have HBW := Lib.hid hbw
      have HXle : Hid (X.length ≤ 1000000) := Lib.hid (by omega)
      have hex : ((k : Int) < (len : Int) ∧ (10 : Int) ≤ (k : Int)) ∨ (len : Int) ≤ (k : Int) := by omega
      clear hRB hbl hbw hRs hXok hXl hel hell HX hgo
      generalize wantF X = E at *
      generalize hen : (encX X).length = en at *
      have HEnq := Lib.hid hen
      clear hen
      rcases hex with ⟨hq1, hq2⟩ | hq1
      all_goals
        go_wp2_with
          (first
            | (go_at_call 11; ((with_reducible refine HRBY.out.mono ?_); rintro x W1 ⟨a4, c4, rfl, hL4, hb1⟩; have HL1 := Lib.hid hL4; have HB1 := Lib.hid hb1; clear hL4 hb1))
            | (go_at_call 17; ((with_reducible refine (HKI.out W1 HB1.out).mono ?_); rintro x W2 ⟨rfl, hC, hb2⟩; have HC := Lib.hid hC; have HL2 := Lib.hid (HL1.out.below hb2); have HB2 := Lib.hid (bthen HB1.out hb2); clear hC hb2))
            | fail)
        have HRB2 := Lib.hid (HRB.out.below HB2.out)
        have hb20 : Below W2.heap.size W2 W2 := Below.refl _ _
        go_loopw [13, 14] (fun t i wx => ∃ j : Nat, j ≤ 7 ∧ i = .int .i64 j ∧ t = .int .i64 (thereN (cntF X) j) ∧ Below W2.heap.size W2 wx) (fun _ i _ => 7 - (intOf i).toNat)
        case atStart => exact ⟨0, Nat.zero_le _, rfl, rfl, hb20⟩
        case round =>
          obtain ⟨j, hj, rfl, rfl, hbel⟩ := hrel
          clear hb20
          have htn := thereN_le (cntF X) j
          by_cases hlt : j < 7
          · obtain ⟨cn, hcn⟩ : ∃ cn, cn = cntF X j := ⟨_, rfl⟩
            have hlk := cnt_look (HC.out.below hbel) (by omega) hcn
            have k0 : wr.cell? ⟨w.heap.size, j, none⟩ = some (.int .i64 (cn : Int)) := cnt_cell (HRB2.out.k.below hbel) (by omega) hcn
            have hw8 : IntKind.u8.wrap (j : Int) = (j : Int) := IntWalk.u8_in _ (by omega)
            have hj0 : (0 : Int) ≤ (j : Int) := Int.natCast_nonneg _
            have hj7 : (j : Int) < 7 := by omega
            have hcl : cn ≤ 1000000 := by have := cnt_le X j; rw [hcn]; exact Nat.le_trans this HXle.out
            have hth : Hid (thereN (cntF X) (j + 1) = thereN (cntF X) j + one cn) := by show _ = _; rw [thereN, hcn]
            have HCN := Lib.hid hcn
            clear hcn
            generalize thereN (cntF X) j = tn at *
            go_wp2_with fail
            go_quiet (fail)
            rcases Nat.eq_zero_or_pos cn with h0 | h0
            · have hd : decide (0 < cn) = false := by simp [h0]
              have hle : cn ≤ 0 := by omega
              have hone : Hid (one cn = 0) := by show _ = _; rw [h0]; rfl
              clear h0
              go_wp2_with fail
              go_roundw
              case rel => exact ⟨j + 1, by omega, by go_num, by rw [hth.out, hone.out]; rfl, bdrew hbel _⟩
              case measure => simp [intOf]; omega
            · have hd : decide (0 < cn) = true := by simpa using h0
              have hone : Hid (one cn = 1) := by show _ = _; unfold one; rw [if_pos h0]
              go_wp2_with fail
              go_roundw
              case rel => exact ⟨j + 1, by omega, by go_num, by rw [hth.out, hone.out]; go_num, bdrew hbel _⟩
              case measure => simp [intOf]; omega
          · have hj7 : j = 7 := by omega
            subst hj7
            rw [thereN_all]
            obtain ⟨D, d1, d2, d3, d4⟩ := HC.out.below hbel
            have HBX := Lib.hid (bthen HB2.out hbel)
            have HLX := Lib.hid (HL2.out.below hbel)
            have hlenm : (Builtin.len_ #[47] 3 #[.map (some W1.heap.size)]).run Try.prog wr = .ok (.int .i64 (there (cntF X))) wr := by
              have h1 := d1.len Try.underlying47 3
              rw [d4] at h1
              exact h1
            clear d4
            generalize there (cntF X) = th at *
            have HRX := Lib.hid (HRB2.out.below hbel)
            clear hlt htn d1 d2 d3
            rcases HBW.out with ⟨hE, hbl⟩ | ⟨hE, hbl⟩
            · subst hE
              have HSm2 := Lib.hid fun (W : World) (h1 : Lst .u8 W a4 bl) (h2 : Lst .u8 W ba (encX X)) => HSm.out W a4 c4 hbl h1 h2
              clear hbl
              go_wp2_with
                (first
                  | (go_at_call 10; ((with_reducible refine (known_any _).mono ?_); rintro x W5 ⟨rfl, hb5⟩; have HLY := Lib.hid (HLX.out.below hb5); have HRY := Lib.hid (HRX.out.below hb5); clear hb5))
                  | (go_at_call 12; ((with_reducible refine (HSm2.out _ HLY.out (by have h9 := HRY.out.b; rw [HEnq.out] at h9; exact Lst.own h9)).mono ?_); rintro x W6 ⟨rfl, hb6⟩))
                  | fail)
              go_ret
              exact ⟨rfl, bthen HRY.out.bel hb6⟩
            · have hE1 : (E == 0) = false := by simpa using hE
              have hE2 : (E != 0) = true := by simpa using hE
              subst hbl
              clear hE HSm
              go_wp2_with ((with_reducible refine (known_any _).mono ?_); rintro x W5 ⟨rfl, hb5⟩; have HRY := Lib.hid (HRX.out.below hb5); clear hb5)
              go_ret
              exact ⟨rfl, HRY.out.bel⟩
end Go.Proofs.Ytaekpejpcafnkaa.rw
