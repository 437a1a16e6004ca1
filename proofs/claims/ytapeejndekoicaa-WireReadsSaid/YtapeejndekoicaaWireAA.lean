/-
  The walk of the law WireReads.
-/
import Derived.Test.YtapeejndekoicaaWireZ
import Derived.Test.YtapeejndekoicaaWireU
namespace Go.Proofs.Ytapeejndekoicaa.ww
open Go.RowKit Go.Proofs.Ytapeejndekoicaa.ba Go.Proofs.Ytapeejndekoicaa.dp Go.Proofs.Ytapeejndekoicaa.wp Go.Proofs.Ytapeejndekoicaa.dw
set_option linter.unusedVariables false
attribute [local go_sem ↓] Go.wp_at_zero Go.wp_at_succ

/-- The reader and the document's stand at one place. -/
def MR (wc wr : World) (g2 hm : Nat) (l : List Int) (e : Int) : Prop :=
  KR wc wr g2 l e ∧ ∃ a c, Blk wr hm 43 #[.slice a l.length c, .int .i64 e] ∧ l.length ≤ c ∧ c ≤ maxLen ∧ Lst .u8 wc a l
theorem tkF_len {α : Type} (z : α) (r : α × Int × Int) (l : List Int) (e : Int) : (tkF z r l e).2.1.length ≤ l.length := by
  unfold tkF
  split
  · simp only [List.length_drop]; omega
  · exact Nat.le_refl _
theorem getF_len (k n : Nat) (l : List Int) (e : Int) : (getF k n l e).2.1.length ≤ l.length := by
  unfold getF
  repeat' split
  all_goals exact tkF_len _ _ _ _
theorem MR.drewN {wc wr : World} {g2 hm : Nat} {l : List Int} {e : Int} (h : MR wc wr g2 hm l e) (n : Nat) : MR wc (wr.drewN n) g2 hm l e := by
  obtain ⟨h1, a, c, h2, h3, h4, h5⟩ := h
  exact ⟨h1.below ⟨rfl, rfl, rfl, Nat.le_refl _, fun _ _ => rfl⟩, a, c, h2.drewN n, h3, h4, h5⟩
/-- What is read is within a number's bounds. -/
theorem KR.by {w W : World} {g : Nat} {l : List Int} {e : Int} (h : KR w W g l e) : Bytes l := h.2.2.bytes

set_option maxRecDepth 100000 in
set_option maxHeartbeats 8000000 in
theorem wireReads_any (ab a : Option Addr) (lb cb len cap : Nat) (Zb : Nat → Int) (w : World) (hlb : lb ≤ cb) (hcb : cb ≤ maxLen) (hIb : Ints .u8 w ab lb Zb) (hZb : ∀ i, i < lb → 0 ≤ Zb i ∧ Zb i ≤ 255) (hlc : len ≤ cap) (hcm : cap ≤ 9223372036854775807) (hR : RawF w a len) :
    Calls Try.prog 5 #[.slice ab lb cb, .slice a len cap] w fun x w' => x = .returned (.bool true) ∧ Below w.heap.size w w' := by
  have hcbM := Lib.hid hcb
  unfold maxLen at hcb
  obtain ⟨m, hm1, hm2, hm3⟩ : ∃ m : Nat, m ≤ 300 ∧ m ≤ lb ∧ Hid (m = if (lb : Int) ≤ 300 then lb else 300) := by
    by_cases h : (lb : Int) ≤ 300
    · exact ⟨lb, by omega, Nat.le_refl _, by show _ = _; rw [if_pos h]⟩
    · exact ⟨300, Nat.le_refl _, by omega, by show _ = _; rw [if_neg h]⟩
  have hLb := Lst.of_ints (Ints.shorter hIb hm2)
  have hlenb := listOf_length Zb m
  have hBy : Bytes (listOf Zb m) := fun v hv => by
    simp [listOf] at hv
    obtain ⟨i, hi, rfl⟩ := hv
    exact hZb i (by omega)
  have hna : ab = none → listOf Zb m = [] := fun h => by
    rcases hIb with h0 | ⟨b, off, h0, _⟩
    · exact List.eq_nil_of_length_eq_zero (by rw [hlenb]; omega)
    · rw [h] at h0; cases h0
  have HRight := Lib.hid fun (W : World) (h : Below w.heap.size w W) => right_v a len cap 20 w W h hlc hcm (by decide) hR
  rw [show ((20 : Nat) : Int) = 20 from rfl] at HRight
  have HNR := Lib.hid fun (W : World) (h : Below w.heap.size w W) => newr_any ab m cb (listOf Zb m) W hlenb (by omega) (hLb.below h) hna hBy
  have HLB := Lib.hid fun (W : World) (h : Below w.heap.size w W) => hLb.below h
  clear hR hIb hZb hLb hna hBy
  obtain ⟨bl, hbl⟩ : ∃ bl, bl = listOf Zb m := ⟨_, rfl⟩
  rw [← hbl] at HNR hlenb HLB
  have Hlb := Lib.hid hlenb
  clear hbl hlenb
  have hw0 : Below w.heap.size w w := Below.refl _ _
  go_enter Try.func5, Try.ntmps5
  go_upto_region 1 with fail
  go_cut [0, 1] (fun x y wx => x = .slice ab m cb ∧ FV 20 wx y ∧ Below w.heap.size w wx)
  case first =>
    by_cases h : (lb : Int) ≤ 300
    · have e : m = lb := by rw [hm3.out, if_pos h]
      subst e
      have hz1 : (0 : Int) ≤ (m : Int) := Int.natCast_nonneg _
      have hz2 : (m : Int) ≤ (cb : Int) := by omega
      have hmin : ∀ W, (Builtin.min_ #[3, 3] 3 #[.int .i64 (m : Int), .int .i64 300]).run Try.prog W = .ok (.int .i64 (m : Int)) W := fun W => by rw [run_min_int2, if_neg (by omega)]
      go_region_held3 (fun w' => Below w.heap.size w w') (first | assumption | exact bdrx hw0)
        (first
          | (go_at_call 9; ((with_reducible refine (HRight.out _ (by first | assumption | exact bdrx hw0)).mono ?_); rintro x W1 ⟨v1, rfl, hV1, hbA⟩))
          | fail)
      all_goals
        go_wp2_with fail
        go_meet
        exact ⟨rfl, hV1, hbA⟩
    · have e : m = 300 := by rw [hm3.out, if_neg h]
      subst e
      have h' : (300 : Int) < (lb : Int) := by omega
      have h2' : (300 : Int) ≤ (cb : Int) := by omega
      clear h
      go_region_held3 (fun w' => Below w.heap.size w w') (first | assumption | exact bdrx hw0)
        (first
          | (go_at_call 9; ((with_reducible refine (HRight.out _ (by first | assumption | exact bdrx hw0)).mono ?_); rintro x W1 ⟨v1, rfl, hV1, hbA⟩))
          | fail)
      all_goals
        go_wp2_with fail
        go_meet
        exact ⟨rfl, hV1, hbA⟩
  case rest =>
    obtain ⟨rfl, hFV, hbel⟩ := hcut
    obtain ⟨F, aF, cF, hv, hF, hF20, hgF⟩ := hFV
    subst hv
    have HNRc := Lib.hid (HNR.out wc hbel)
    have hLc := HLB.out wc hbel
    have hmc : m ≤ cb := by omega
    clear HNR HLB HRight
    go_wp2_with (go_at_call 16; ((with_reducible refine HNRc.out.mono ?_); rintro x W4 ⟨g2, rfl, hR4⟩))
    have hMR : MR wc (W4.alloc (.cells #[.slice ab m cb, .int .i64 0] 43)) g2 W4.heap.size bl 0 :=
      ⟨hR4.below (box_below _ _), ab, cb, by rw [Hlb.out]; exact Blk.new W4 _ _, by rw [Hlb.out]; exact hmc, hcbM.out, hLc⟩
    have hg2 : g2 < W4.heap.size := hR4.ne
    have hwhm : wc.heap.size ≤ W4.heap.size := hR4.2.1.size
    obtain ⟨hm, hhm⟩ : ∃ h, h = W4.heap.size := ⟨_, rfl⟩
    rw [← hhm] at hMR hg2 hwhm ⊢
    have hl300 : bl.length ≤ 300 := by rw [Hlb.out]; exact hm1
    clear hhm hR4
    go_loopw [7] (fun i wr => ∃ (j : Nat) (l : List Int) (e : Int), j ≤ F.length ∧ l.length ≤ 300 ∧ i = .int .i64 j ∧ MR wc wr g2 hm l e) (fun i _ => F.length - (intOf i).toNat)
    case atStart => exact ⟨0, bl, 0, Nat.zero_le _, hl300, rfl, hMR⟩
    case round =>
      clear hMR hl300
      obtain ⟨j, l, e, hj, hl3, rfl, hM⟩ := hrel
      obtain ⟨hKR, am, cm, hBm, hcl, hcM, hLm⟩ := hM
      by_cases hlt : j < F.length
      · obtain ⟨f, hf⟩ := some_at F hlt
        have hgf := hgF f (List.mem_of_getElem? hf)
        rcases hF with h0 | ⟨b, off, rfl, hc⟩
        · subst h0; simp at hlt
        obtain ⟨d0, d1, d2⟩ := fl_at hc hf hKR.2.1
        have hltI : (j : Int) < (F.length : Int) := by omega
        have hj0 : (0 : Int) ≤ (j : Int) := Int.natCast_nonneg _
        clear hc hf
        obtain ⟨k, n, s⟩ := f
        obtain ⟨hk5, hn, hsz⟩ := hgf
        simp only at hk5 hn hsz d0 d1 d2
        have hBy := hKR.by
        have hgm : g2 ≠ hm := by omega
        have hgf : g2 ≠ wr.heap.size := by have := hKR.ne; omega
        have hwr : wc.heap.size ≤ wr.heap.size := hKR.2.1.size
        by_cases hk4 : k = 4
        · subst hk4
          simp only [show ((4 : Nat) : Int) = 4 from rfl] at d0
          have hBf5 := Blk.new wr 29 #[.int .i64 4, .int .u64 ((n : Int) % 1000000), .string s]
          have hBm5 := hBm.alloc (.cells #[.int .i64 4, .int .u64 ((n : Int) % 1000000), .string s] 29)
          have hKR5 := hKR.below (box_below wr (.cells #[.int .i64 4, .int .u64 ((n : Int) % 1000000), .string s] 29))
          have HKR := Lib.hid hKR5; have HBF := Lib.hid hBf5; have HBM := Lib.hid hBm5
          have hmlt := hBm.lt
          clear hKR hBm hKR5 hBf5 hBm5
          go_upto_region 10 with fail
          have hKR5 := HKR.out; have hBf5 := HBF.out; have hBm5 := HBM.out
          clear HKR HBF HBM
          generalize wr.alloc (.cells #[.int .i64 4, .int .u64 ((n : Int) % 1000000), .string s] 29) = W5 at *
          generalize wr.heap.size = hv at *
          obtain ⟨n', hn'⟩ : ∃ n' : Nat, ((n : Int) % 1000000) = (n' : Int) := ⟨n % 1000000, by omega⟩
          rw [hn'] at hBf5 ⊢
          have hn6 : n' < 1000000 := by omega
          have HG := get_any g2 4 n' l e W5 (by omega) (by omega) hKR5.2.2
          have HR := fun (W : World) (h : Below wc.heap.size wc W) => rread_any 4 n' s am cm l e W (by omega) (by omega) (by omega) hcl hcM hBy (hLm.below h)
          have hlen := getF_len 4 n' l e
          obtain ⟨gr, hgr⟩ : ∃ r, r = getF 4 n' l e := ⟨_, rfl⟩
          rw [← hgr] at HG HR hlen
          obtain ⟨⟨v, tx⟩, l2, e2⟩ := gr
          simp only [show ((4 : Nat) : Int) = 4 from rfl] at HG HR hlen
          unfold RRd at HR
          have q0 : W5.cell? ⟨hv, 0, none⟩ = some (.int .i64 4) := hBf5.cell 0
          have q1 : W5.cell? ⟨hv, 1, none⟩ = some (.int .u64 n') := hBf5.cell 1
          have HGH := Lib.hid HG; have HRD := Lib.hid HR; have HKR := Lib.hid hKR5; have HBF := Lib.hid hBf5; have HBM := Lib.hid hBm5
          clear HG HR hgr hKR5 hBf5 hBm5 hn hn' hn6
          go_upto_region 13 with (first
            | (go_at_call 17; ((with_reducible refine HGH.out.mono ?_); rintro x W6 ⟨rfl, hD6⟩; have hB6 := HBF.out.kept hD6.2 (fun h => hgf h.symm); have hM6 := HBM.out.kept hD6.2 (fun h => hgm h.symm); have q2 : W6.cell? ⟨hv, 0, none⟩ = some (.int .i64 4) := hB6.cell 0; have q3 : W6.cell? ⟨hv, 1, none⟩ = some (.int .u64 n') := hB6.cell 1; have q4 : W6.cell? ⟨hv, 2, none⟩ = some (.string s) := hB6.cell 2; have m0 : W6.cell? ⟨hm, 0, none⟩ = some (.slice am l.length cm) := hM6.cell 0; have m1 : W6.cell? ⟨hm, 1, none⟩ = some (.int .i64 e) := hM6.cell 1; have hK6 := Lib.hid (HKR.out.done hD6); have hbc6 : Below wc.heap.size wc W6 := (HKR.out.done hD6).2.1; have HM6 := Lib.hid hM6; clear hB6 hM6 hD6))
            | (go_at_call 18; ((with_reducible refine (HRD.out _ hbc6).mono ?_); rintro x W7 ⟨a2, c2, rfl, hc2, hcM2, hL2, hb7⟩; have hK7 := Lib.hid (hK6.out.below hb7); have hM7 := HM6.out.below hb7; have p0 : W7.cell? ⟨hm, 0, none⟩ = some (.slice am l.length cm) := hM7.cell 0; have p1 : W7.cell? ⟨hm, 1, none⟩ = some (.int .i64 e) := hM7.cell 1; have f0 := hM7.frozen 0; have f1 := hM7.frozen 1; have hlt7 := hM7.lt; have HM7 := Lib.hid hM7; have HL2 := Lib.hid (hL2 _ hLm); clear hM7 hb7 hL2)))
          have hBm9 : Blk (((W7.setCell ⟨hm, 0, none⟩ (.slice a2 l2.length c2)).setCell ⟨hm, 1, none⟩ (.int .i64 e2)).alloc (.cells #[.slice a2 l2.length c2, .int .i64 e2] 43)) hm 43 #[.slice a2 l2.length c2, .int .i64 e2] := ((HM7.out.set_ 0 _).set_ 1 _).alloc _
          have hK9 : KR wc (((W7.setCell ⟨hm, 0, none⟩ (.slice a2 l2.length c2)).setCell ⟨hm, 1, none⟩ (.int .i64 e2)).alloc (.cells #[.slice a2 l2.length c2, .int .i64 e2] 43)) g2 l2 e2 := ((hK7.out.set HM7.out (by decide) hgm hwhm 0 _).set (HM7.out.set_ 0 _) (by decide) hgm hwhm 1 _).below (box_below _ _)
          generalize ((W7.setCell ⟨hm, 0, none⟩ (.slice a2 l2.length c2)).setCell ⟨hm, 1, none⟩ (.int .i64 e2)).alloc (.cells #[.slice a2 l2.length c2, .int .i64 e2] 43) = W9 at *
          have m2 : W9.cell? ⟨hm, 0, none⟩ = some (.slice a2 l2.length c2) := hBm9.cell 0
          have m3 : W9.cell? ⟨hm, 1, none⟩ = some (.int .i64 e2) := hBm9.cell 1
          have hM9 : MR wc W9 g2 hm l2 e2 := ⟨hK9, a2, c2, hBm9, hc2, hcM2, HL2.out⟩
          have hR9 : ∀ q, Rd wc.heap.size (W9.drewN q) g2 l2 e2 := fun q => (hM9.drewN q).1.2.2
          have HLq := Lib.hid fun (q : Nat) => (left_any g2 l2 e2 (W9.drewN q) (hR9 q)).mono fun x w' h => (⟨h.1, h.2.symm⟩ : x = _ ∧ w' = W9.drewN q)
          have HEq := Lib.hid fun (q : Nat) => (err_any g2 l2 e2 (W9.drewN q) (hR9 q)).mono fun x w' h => (⟨h.1, h.2.symm⟩ : x = _ ∧ w' = W9.drewN q)
          have HM9 := Lib.hid hM9
          clear hM9 hR9 hBm9 hK9
          go_quiet ((first | (go_at_call 19; exact Calls.quiet_of_same (HLq.out _)) | (go_at_call 20; exact Calls.quiet_of_same (HEq.out _))))
          go_wp2_with fail
          go_roundw
          case rel => exact ⟨j + 1, l2, e2, by omega, by omega, by go_num, HM9.out.drewN _⟩
          case measure => simp [intOf]; omega
        · have hk4' : ((k : Int) == 4) = false := by simp; omega
          have hBf5 := Blk.new wr 29 #[.int .i64 k, .int .u64 n, .string s]
          have hBm5 := hBm.alloc (.cells #[.int .i64 k, .int .u64 n, .string s] 29)
          have hKR5 := hKR.below (box_below wr (.cells #[.int .i64 k, .int .u64 n, .string s] 29))
          have HKR := Lib.hid hKR5; have HBF := Lib.hid hBf5; have HBM := Lib.hid hBm5
          have hmlt := hBm.lt
          clear hKR hBm hKR5 hBf5 hBm5
          go_upto_region 10 with fail
          have hKR5 := HKR.out; have hBf5 := HBF.out; have hBm5 := HBM.out
          clear HKR HBF HBM
          generalize wr.alloc (.cells #[.int .i64 k, .int .u64 n, .string s] 29) = W5 at *
          generalize wr.heap.size = hv at *
          have HG := get_any g2 k n l e W5 (by omega) (by omega) hKR5.2.2
          have HR := fun (W : World) (h : Below wc.heap.size wc W) => rread_any k n s am cm l e W (by omega) (by omega) (by omega) hcl hcM hBy (hLm.below h)
          have hlen := getF_len k n l e
          obtain ⟨gr, hgr⟩ : ∃ r, r = getF k n l e := ⟨_, rfl⟩
          rw [← hgr] at HG HR hlen
          obtain ⟨⟨v, tx⟩, l2, e2⟩ := gr
          simp only at HG HR hlen
          unfold RRd at HR
          have q0 : W5.cell? ⟨hv, 0, none⟩ = some (.int .i64 k) := hBf5.cell 0
          have q1 : W5.cell? ⟨hv, 1, none⟩ = some (.int .u64 n) := hBf5.cell 1
          have HGH := Lib.hid HG; have HRD := Lib.hid HR; have HKR := Lib.hid hKR5; have HBF := Lib.hid hBf5; have HBM := Lib.hid hBm5
          clear HG HR hgr hKR5 hBf5 hBm5 hn hk4
          go_upto_region 13 with (first
            | (go_at_call 17; ((with_reducible refine HGH.out.mono ?_); rintro x W6 ⟨rfl, hD6⟩; have hB6 := HBF.out.kept hD6.2 (fun h => hgf h.symm); have hM6 := HBM.out.kept hD6.2 (fun h => hgm h.symm); have q2 : W6.cell? ⟨hv, 0, none⟩ = some (.int .i64 k) := hB6.cell 0; have q3 : W6.cell? ⟨hv, 1, none⟩ = some (.int .u64 n) := hB6.cell 1; have q4 : W6.cell? ⟨hv, 2, none⟩ = some (.string s) := hB6.cell 2; have m0 : W6.cell? ⟨hm, 0, none⟩ = some (.slice am l.length cm) := hM6.cell 0; have m1 : W6.cell? ⟨hm, 1, none⟩ = some (.int .i64 e) := hM6.cell 1; have hK6 := Lib.hid (HKR.out.done hD6); have hbc6 : Below wc.heap.size wc W6 := (HKR.out.done hD6).2.1; have HM6 := Lib.hid hM6; clear hB6 hM6 hD6))
            | (go_at_call 18; ((with_reducible refine (HRD.out _ hbc6).mono ?_); rintro x W7 ⟨a2, c2, rfl, hc2, hcM2, hL2, hb7⟩; have hK7 := Lib.hid (hK6.out.below hb7); have hM7 := HM6.out.below hb7; have p0 : W7.cell? ⟨hm, 0, none⟩ = some (.slice am l.length cm) := hM7.cell 0; have p1 : W7.cell? ⟨hm, 1, none⟩ = some (.int .i64 e) := hM7.cell 1; have f0 := hM7.frozen 0; have f1 := hM7.frozen 1; have hlt7 := hM7.lt; have HM7 := Lib.hid hM7; have HL2 := Lib.hid (hL2 _ hLm); clear hM7 hb7 hL2)))
          have hBm9 : Blk (((W7.setCell ⟨hm, 0, none⟩ (.slice a2 l2.length c2)).setCell ⟨hm, 1, none⟩ (.int .i64 e2)).alloc (.cells #[.slice a2 l2.length c2, .int .i64 e2] 43)) hm 43 #[.slice a2 l2.length c2, .int .i64 e2] := ((HM7.out.set_ 0 _).set_ 1 _).alloc _
          have hK9 : KR wc (((W7.setCell ⟨hm, 0, none⟩ (.slice a2 l2.length c2)).setCell ⟨hm, 1, none⟩ (.int .i64 e2)).alloc (.cells #[.slice a2 l2.length c2, .int .i64 e2] 43)) g2 l2 e2 := ((hK7.out.set HM7.out (by decide) hgm hwhm 0 _).set (HM7.out.set_ 0 _) (by decide) hgm hwhm 1 _).below (box_below _ _)
          generalize ((W7.setCell ⟨hm, 0, none⟩ (.slice a2 l2.length c2)).setCell ⟨hm, 1, none⟩ (.int .i64 e2)).alloc (.cells #[.slice a2 l2.length c2, .int .i64 e2] 43) = W9 at *
          have m2 : W9.cell? ⟨hm, 0, none⟩ = some (.slice a2 l2.length c2) := hBm9.cell 0
          have m3 : W9.cell? ⟨hm, 1, none⟩ = some (.int .i64 e2) := hBm9.cell 1
          have hM9 : MR wc W9 g2 hm l2 e2 := ⟨hK9, a2, c2, hBm9, hc2, hcM2, HL2.out⟩
          have hR9 : ∀ q, Rd wc.heap.size (W9.drewN q) g2 l2 e2 := fun q => (hM9.drewN q).1.2.2
          have HLq := Lib.hid fun (q : Nat) => (left_any g2 l2 e2 (W9.drewN q) (hR9 q)).mono fun x w' h => (⟨h.1, h.2.symm⟩ : x = _ ∧ w' = W9.drewN q)
          have HEq := Lib.hid fun (q : Nat) => (err_any g2 l2 e2 (W9.drewN q) (hR9 q)).mono fun x w' h => (⟨h.1, h.2.symm⟩ : x = _ ∧ w' = W9.drewN q)
          have HM9 := Lib.hid hM9
          clear hM9 hR9 hBm9 hK9
          go_quiet ((first | (go_at_call 19; exact Calls.quiet_of_same (HLq.out _)) | (go_at_call 20; exact Calls.quiet_of_same (HEq.out _))))
          go_wp2_with fail
          go_roundw
          case rel => exact ⟨j + 1, l2, e2, by omega, by omega, by go_num, HM9.out.drewN _⟩
          case measure => simp [intOf]; omega
      · have hjn : j = F.length := by omega
        have hgeI : (F.length : Int) ≤ (j : Int) := by omega
        have hM0 : MR wc wr g2 hm l e := ⟨hKR, am, cm, hBm, hcl, hcM, hLm⟩
        have m0 : wr.cell? ⟨hm, 0, none⟩ = some (.slice am l.length cm) := hBm.cell 0
        have m1 : wr.cell? ⟨hm, 1, none⟩ = some (.int .i64 e) := hBm.cell 1
        have hb0 := bthen hbel hKR.2.1
        have HDn := Lib.hid fun (W : World) (h : KR wc W g2 l e) => done_any g2 l e W (by omega) h.2.2
        have HK := Lib.hid hKR
        clear hjn hj hM0 hKR hBm
        by_cases he : e = 0
        · subst he
          by_cases hl : 0 < l.length
          · have hd : doneF l 0 = 3 := by unfold doneF; rw [if_pos ⟨rfl, hl⟩]
            rw [hd] at HDn
            have hlI : (0 : Int) < (l.length : Int) := by omega
            clear hd
            go_wp2_with (first
              | (go_at_call 14; ((with_reducible refine (known_any _).mono ?_); rintro x W11 ⟨rfl, hb11⟩; replace HK := Lib.hid (HK.out.below hb11); replace hb0 := bthen hb0 hb11))
              | (go_at_call 21; ((with_reducible refine (HDn.out _ HK.out).mono ?_); rintro x W12 ⟨rfl, rfl⟩)))
            go_ret
            exact ⟨ret_bool (by simp), hb0⟩
          · have hd : doneF l 0 = 0 := by unfold doneF; rw [if_neg (fun hh => hl hh.2)]
            rw [hd] at HDn
            have hlI : (l.length : Int) ≤ (0 : Int) := by omega
            clear hd
            go_wp2_with (first
              | (go_at_call 14; ((with_reducible refine (known_any _).mono ?_); rintro x W11 ⟨rfl, hb11⟩; replace HK := Lib.hid (HK.out.below hb11); replace hb0 := bthen hb0 hb11))
              | (go_at_call 21; ((with_reducible refine (HDn.out _ HK.out).mono ?_); rintro x W12 ⟨rfl, rfl⟩)))
            go_ret
            exact ⟨ret_bool (by simp), hb0⟩
        · have hd : doneF l e = e := by unfold doneF; rw [if_neg (fun hh => he hh.1)]
          rw [hd] at HDn
          have he' : (e == 0) = false := by simpa using he
          clear hd he
          go_wp2_with (first
            | (go_at_call 14; ((with_reducible refine (known_any _).mono ?_); rintro x W11 ⟨rfl, hb11⟩; replace HK := Lib.hid (HK.out.below hb11); replace hb0 := bthen hb0 hb11))
            | (go_at_call 21; ((with_reducible refine (HDn.out _ HK.out).mono ?_); rintro x W12 ⟨rfl, rfl⟩)))
          go_ret
          exact ⟨ret_bool (by simp), hb0⟩
end Go.Proofs.Ytapeejndekoicaa.ww
