/-
  The walks of layer 12's document: Seen, At, Trim.
-/
import Derived.Test.YtpbdgfgjlccapaaChnR
namespace Go.Proofs.Ytpbdgfgjlccapaa.cw
open Go.RowKit Go.Proofs.Ytpbdgfgjlccapaa.ba Go.Proofs.Ytpbdgfgjlccapaa.rp Go.Proofs.Ytpbdgfgjlccapaa.rw Go.Proofs.Ytpbdgfgjlccapaa.cp
set_option maxRecDepth 8000
set_option linter.unusedVariables false
attribute [local go_sem ↓] Go.wp_at_zero Go.wp_at_succ

theorem seenK_step {L : List V} {k : Nat} {v : V} (hv : L[k]? = some v) (t : Int) : seenK L t (k + 1) = if v.a ≤ t then (k : Int) else seenK L t k := by
  simp only [seenK, hv]
set_option maxRecDepth 100000 in
set_option maxHeartbeats 4000000 in
theorem dseen_any (a : Option Addr) (n c : Nat) (t : Int) (L : List V) (w : World) (hn : L.length = n) (hl : n ≤ 1000000) (hL : DL w a L) :
    Calls Try.prog 30 #[.slice a n c, .int .u64 t] w fun e w' => e = .returned (.int .i64 (seenK L t L.length)) ∧ w = w' := by
  subst hn
  go_enter Try.func30, Try.ntmps30
  go_wp2_with fail
  go_loopw [5, 6] (fun s i wr => ∃ k : Nat, s = .int .i64 (seenK L t k) ∧ i = .int .i64 k ∧ k ≤ L.length ∧ w = wr) (fun _ i _ => L.length - (intOf i).toNat)
  case atStart => exact ⟨0, rfl, rfl, Nat.zero_le _, rfl⟩
  case round =>
    obtain ⟨k, rfl, rfl, hk, rfl⟩ := hrel
    by_cases hlt : k < L.length
    · obtain ⟨v, hv⟩ := at_some hlt
      obtain ⟨b, off, rfl, c0, _⟩ := hL.at hv
      have hlti : (k : Int) < (L.length : Int) := by omega
      have HS := Lib.hid (seenK_step hv t)
      clear hv
      rcases Int.lt_or_le t v.a with h1 | h1
      · have hno : ¬ v.a ≤ t := by omega
        have HS2 := Lib.hid (HS.out.trans (if_neg hno))
        go_wp2_with fail
        go_roundw
        case rel => exact ⟨k + 1, by rw [HS2.out], by go_num, by omega, by first | rfl | trivial⟩
        case measure => simp [intOf]; omega
      · have HS2 := Lib.hid (HS.out.trans (if_pos h1))
        go_wp2_with fail
        go_roundw
        case rel => exact ⟨k + 1, by rw [HS2.out], by go_num, by omega, by first | rfl | trivial⟩
        case measure => simp [intOf]; omega
    · have hke : k = L.length := by omega
      subst hke
      go_wp2_with fail
      go_ret
      exact ⟨rfl, rfl⟩
abbrev dzcells : Array Value := #[.int .i64 0, .int .i64 0, .int .i64 0, .int .i64 0, .int .i64 0, .bool false, .int .u64 0, .int .u64 0, .string ⟨#[]⟩]
abbrev drcA (r : R) : Array Value := #[.int .i64 r.k, .int .i64 r.s, .int .i64 r.u, .int .i64 r.p, .int .i64 r.m, .bool r.g, .int .u64 r.v, .int .u64 r.a, .string r.t]
theorem dres_rec2 {fn : Func} {p u : Tmp} (h : fn.results = #[.cell p 51, .tmp u]) (tmps : Array Value) (w : World) (g : Nat) (cs : Array Value) (hp : tmps.getD p undef = .pointer (some ⟨g, 0, none⟩)) (hs : cs.size = 9) (hB : Blk w g 51 cs) :
    (results fn tmps).run Try.prog w = .ok (.tuple #[.agg cs, tmps.getD u undef]) w := by
  have hi : (Try.prog.info? 51).map (·.size) = some 9 := by kernel_rfl
  have hu : Try.prog.underlying 51 = some (.struct (Try.prog.fieldsOf 51)) := by kernel_rfl
  rw [results_cell_tmp h, hp]
  have := run_loadVar_row (P := Try.prog) w g 51 51 cs (0, 0) _ hB hu rfl (by rw [hi, hs])
  simp [asAddr, Result.andThen, this]
set_option maxRecDepth 100000 in
set_option maxHeartbeats 4000000 in
theorem dat_any (a : Option Addr) (n c : Nat) (t : Int) (L : List V) (w : World) (hn : L.length = n) (hl : n ≤ 1000000) (hL : DL w a L) :
    Calls Try.prog 20 #[.slice a n c, .int .u64 t] w fun e w' => e = .returned (.tuple #[.agg #[.int .i64 (atF L t).1.k, .int .i64 (atF L t).1.s, .int .i64 (atF L t).1.u, .int .i64 (atF L t).1.p, .int .i64 (atF L t).1.m, .bool (atF L t).1.g, .int .u64 (atF L t).1.v, .int .u64 (atF L t).1.a, .string (atF L t).1.t], .bool (atF L t).2]) ∧ Below w.heap.size w w' := by
  subst hn
  have hb0 := box_b w (.cells dzcells 51)
  have hB0 := Blk.new w 51 dzcells
  have HS := Lib.hid (dseen_any a L.length c t L _ rfl hl (hL.below hb0))
  rcases seen_cases L t L.length with hs | ⟨m, v, hm, hv, hs⟩
  · have hat : atF L t = (zeroR, false) := by unfold atF; rw [hs, if_pos (by decide)]
    rw [hat]
    rw [hs] at HS
    go_enter Try.func20, Try.ntmps20
    go_wp2_with (go_at_call 30; ((with_reducible refine HS.out.mono ?_); rintro x w1 ⟨rfl, rfl⟩))
    exact bodyPost_ret (dres_rec2 rfl _ _ w.heap.size _ rfl rfl (Blk.new w _ _)) rfl ⟨rfl, box_b w _⟩
  · obtain ⟨b, off, rfl, hda⟩ := hL.at hv
    have hmI : (m : Int) < (L.length : Int) := by omega
    have hm0 : (0 : Int) ≤ (m : Int) := Int.natCast_nonneg _
    have hat : atF L t = if v.d then (zeroR, false) else (v.r, true) := by
      unfold atF
      rw [hs, if_neg (by omega), Int.toNat_natCast, hv]
    have HAT := Lib.hid hat
    have HDA := Lib.hid (hda.below hb0)
    rw [hs] at HS
    obtain ⟨c0, c1, c2, c3, c4, c5, c6, c7, c8, c9, c10⟩ := hda.below hb0
    clear hat hda hL hs hB0
    cases hd : v.d with
    | true =>
      rw [hd] at c1
      go_enter Try.func20, Try.ntmps20
      go_wp2_with (go_at_call 30; ((with_reducible refine HS.out.mono ?_); rintro x w1 ⟨rfl, rfl⟩))
      refine bodyPost_ret (dres_rec2 rfl _ _ w.heap.size _ rfl rfl (Blk.new w _ _)) rfl ?_
      rw [HAT.out, hd]
      exact ⟨rfl, box_b w _⟩
    | false =>
      rw [hd] at c1
      go_enter Try.func20, Try.ntmps20
      go_wp2_with (go_at_call 30; ((with_reducible refine HS.out.mono ?_); rintro x w1 ⟨rfl, rfl⟩))
      refine bodyPost_ret (dres_rec2 rfl _ _ w.heap.size _ rfl rfl (Blk.new w _ _)) rfl ?_
      rw [HAT.out, hd]
      exact ⟨rfl, box_b w _⟩
theorem needD_step {L : List V} {P : List Int} {k : Nat} {p : Int} (hp : P[k]? = some p) (i : Nat) : (decide (i + 1 = L.length) || (P.take (k + 1)).any fun p => seenK L p L.length == (i : Int)) = ((decide (i + 1 = L.length) || (P.take k).any fun p => seenK L p L.length == (i : Int)) || (seenK L p L.length == (i : Int))) := need_step hp i
set_option maxRecDepth 100000 in
set_option maxHeartbeats 8000000 in
theorem dtrim_any (a : Option Addr) (n c : Nat) (pa : Option Addr) (pn pc : Nat) (L : List V) (P : List Int) (w : World) (hn : L.length = n) (hl : n ≤ 100000) (hL : DL w a L) (hP : Lst .u64 w pa P) (hpn : P.length = pn) (hpl : pn ≤ 100000) :
    Calls Try.prog 15 #[.slice a n c, .slice pa pn pc] w fun e w' => ∃ a' c', e = .returned (.slice a' (trimF L P).length c') ∧ DL w' a' (trimF L P) ∧ Below w.heap.size w w' := by
  subst hn hpn
  have hM : ∀ k, (keepK L (needF L P) k).length ≤ k := keepK_len L _
  have HSeen := Lib.hid fun (p : Int) (W : World) (h : Below w.heap.size w W) => dseen_any a L.length c p L W rfl (by omega) (hL.below h)
  have HL := Lib.hid hL
  have HP := Lib.hid hP
  have Hl := Lib.hid hl
  have hli : (L.length : Int) ≤ 100000 := by omega
  clear hL hP hl
  go_enter Try.func15, Try.ntmps15
  go_wp2_with fail
  go_loopw [5, 6] (fun o i wr => ∃ k : Nat, i = .int .i64 k ∧ k ≤ L.length ∧ DO wr w.heap.size o (keepK L (needF L P) k) ∧ Below w.heap.size w wr) (fun _ i _ => L.length - (intOf i).toNat)
  case atStart => exact ⟨0, rfl, Nat.zero_le _, World.ownsRow_nil _ _ _ _, Below.refl _ _⟩
  case round =>
    obtain ⟨k, rfl, hk, hO, hb⟩ := hrel
    by_cases hlt : k < L.length
    · obtain ⟨v, hv⟩ := at_some hlt
      have hlti : (k : Int) < (L.length : Int) := by omega
      have hk0 : (0 : Int) ≤ (k : Int) := Int.natCast_nonneg _
      have HKS := Lib.hid (keepK_step L (needF L P) k v hv)
      have hfirst : ((k : Int) == (L.length : Int) - 1) = decide (k + 1 = L.length) := by rw [Bool.eq_iff_iff, beq_iff_eq, decide_eq_true_eq]; omega
      have HO := Lib.hid hO
      have HB := Lib.hid hb
      have HV := Lib.hid hv
      have hkl := hM k
      clear hO hb hv
      go_wp2_with fail
      generalize wr = y1 at *
      clear hfirst
      go_loopw [7, 8] (fun nd i wx => ∃ j : Nat, nd = .bool (decide (k + 1 = L.length) || (P.take j).any fun p => seenK L p L.length == (k : Int)) ∧ i = .int .i64 j ∧ j ≤ P.length ∧ y1 = wx) (fun _ i _ => P.length - (intOf i).toNat)
      case atStart => exact ⟨0, by simp, rfl, Nat.zero_le _, rfl⟩
      case round =>
        obtain ⟨j, rfl, rfl, hj, rfl⟩ := hrel
        by_cases hjt : j < P.length
        · obtain ⟨p, hp⟩ := some_at P hjt
          obtain ⟨pb, poff, rfl, pc0⟩ := (HP.out.below HB.out).at hp
          have hjti : (j : Int) < (P.length : Int) := by omega
          have hj0 : (0 : Int) ≤ (j : Int) := Int.natCast_nonneg _
          have hst := needD_step (L := L) hp k
          have HSn := Lib.hid (HSeen.out p _ HB.out)
          generalize hf : (decide (k + 1 = L.length) || (P.take j).any fun p => seenK L p L.length == (k : Int)) = f at *
          generalize hz : seenK L p L.length = s at *
          obtain ⟨z, hze⟩ : ∃ z, (s == (k : Int)) = z := ⟨_, rfl⟩
          rw [hze] at hst
          have HST := Lib.hid hst
          clear hst hf hz hp
          cases f with
          | true =>
            go_wp2_with fail
            go_roundw
            case rel => exact ⟨j + 1, by rw [HST.out]; rfl, by go_num, by omega, by first | rfl | trivial⟩
            case measure => simp [intOf]; omega
          | false =>
            go_wp2_with (go_at_call 30; ((with_reducible refine HSn.out.mono ?_); rintro x w1 ⟨rfl, rfl⟩))
            go_roundw
            case rel => exact ⟨j + 1, by rw [HST.out]; rfl, by go_num, by omega, by first | rfl | trivial⟩
            case measure => simp [intOf]; omega
        · have hje : j = P.length := by omega
          subst hje
          rw [List.take_length]
          have hnd : (decide (k + 1 = L.length) || P.any fun p => seenK L p L.length == (k : Int)) = needF L P k := rfl
          rw [hnd]
          obtain ⟨b, off, rfl, hda⟩ := (HL.out.below HB.out).at HV.out
          obtain ⟨c0, c1, c2, c3, c4, c5, c6, c7, c8, c9, c10⟩ := hda
          have HKN := HKS.out
          clear hnd HKS
          cases hnk : needF L P k with
          | false =>
            rw [hnk] at HKN
            have HK2 := Lib.hid (HKN.trans (if_neg (by decide)))
            clear HKN hnk
            go_wp2_with fail
            go_roundw
            case rel => exact ⟨k + 1, by go_num, by omega, by rw [HK2.out]; exact HO.out, HB.out⟩
            case measure => simp [intOf]; omega
          | true =>
            rw [hnk] at HKN
            have HK2 := Lib.hid (HKN.trans (if_pos rfl))
            clear HKN hnk
            go_wp2_with (at_builtin; go_loud ((refine dwp_append rfl _ _ rfl w.heap.size _ (keepK L (needF L P) k) rfl (World.ownsRow.alloc HO.out _) (some ⟨y1.heap.size, 0, none⟩) 1 1 [v] rfl rfl (DL.box y1 v) (by have := Hl.out; omega) (by have := HB.out.size; simp; omega) ?_; intro v6 w5 hO6 hg6 _; have HO6 := Lib.hid hO6; have HG6 := Lib.hid hg6; clear hO6 hg6)))
            refine ⟨⟨k + 1, by go_num, by omega, by rw [HK2.out]; exact HO6.out, (HB.out.alloc HB.out.size _).grown HG6.out (by have := HB.out.size; simp; omega) (fun j hj => (World.ownsRow.lt HO.out j hj).1)⟩, ?_⟩
            simp [intOf]
            omega
    · have hke : k = L.length := by omega
      subst hke
      obtain ⟨ma, mc, rfl, hML, _, hmc1, hmc2, hmn⟩ := hO.dl
      have HML := Lib.hid hML
      have HB := Lib.hid hb
      have HMN := Lib.hid hmn
      have hkl := hM L.length
      obtain ⟨K, hK⟩ : ∃ K, keepK L (needF L P) L.length = K := ⟨_, rfl⟩
      have HT := Lib.hid (rfl : trimF L P = (keepK L (needF L P) L.length).dropWhile (idleF P))
      have hT : trimF L P = K.dropWhile (idleF P) := by rw [← hK]; rfl
      have HTK := Lib.hid hT
      rw [hK] at hkl HML hmc1 HMN ⊢
      clear hML hb hO hmn hM HT hT hK
      go_wp2_with fail
      generalize wr = y2 at *
      go_loopw [5] (fun lv wz => ∃ (M : List V) (a : Option Addr) (c : Nat), lv = .slice a M.length c ∧ DL wz a M ∧ M.length ≤ c ∧ c ≤ 9223372036854775807 ∧ (a = none → M.length = 0 ∧ c = 0) ∧ M.dropWhile (idleF P) = K.dropWhile (idleF P) ∧ M.length ≤ L.length ∧ Below w.heap.size w wz) (fun lv _ => lenV lv)
      case atStart => exact ⟨_, ma, mc, rfl, HML.out, hmc1, hmc2, HMN.out, rfl, hkl, HB.out⟩
      case round =>
        obtain ⟨M, a3, c3, rfl, hDL3, hc31, hc32, hn3, hdw, hml, hbw⟩ := hrel
        have HDW := Lib.hid hdw
        have HBW := Lib.hid hbw
        clear hdw hbw hn3
        rcases M with _ | ⟨v, M⟩
        · have hT : trimF L P = [] := by rw [HTK.out, ← HDW.out]; rfl
          have HT2 := Lib.hid hT
          clear hT
          go_wp2_with fail
          go_ret
          rw [HT2.out]
          exact ⟨_, _, rfl, .inl rfl, HBW.out⟩
        · rw [List.length_cons]
          obtain ⟨b, off, rfl, hda⟩ := hDL3.at (k := 0) (v := v) rfl
          rw [Nat.zero_mul, Nat.add_zero] at hda
          have HTL := Lib.hid (DL.tail hDL3)
          have HD3 := Lib.hid hDL3
          have hdd := hda
          obtain ⟨c0, c1, c2, c3, c4, c5, c6, c7, c8, c9, c10⟩ := hda
          have HDA := Lib.hid hdd
          clear hdd
          have hpos : (0 : Int) < ((M.length + 1 : Nat) : Int) := by omega
          cases hd : v.d with
          | false =>
            rw [hd] at c1
            have hT : trimF L P = v :: M := by rw [HTK.out, ← HDW.out, List.dropWhile_cons]; unfold idleF; rw [hd]; rfl
            have HT2 := Lib.hid hT
            clear hT hd
            go_wp2_with fail
            go_ret
            rw [HT2.out]
            exact ⟨_, _, rfl, HD3.out, HBW.out⟩
          | true =>
            rw [hd] at c1
            have hidle : idleF P v = !(P.any fun p => decide (p < v.a)) := by unfold idleF; rw [hd]; rfl
            have HID := Lib.hid hidle
            clear hidle hd
            go_wp2_with fail
            generalize wr = y3 at *
            go_loopw [9] (fun i wx => ∃ j : Nat, i = .int .i64 j ∧ j ≤ P.length ∧ (P.take j).any (fun p => decide (p < v.a)) = false ∧ Below y3.heap.size y3 wx) (fun i _ => P.length - (intOf i).toNat)
            case atStart => exact ⟨0, rfl, Nat.zero_le _, rfl, Below.refl _ _⟩
            case round =>
              obtain ⟨j, rfl, hj, hno, hb3⟩ := hrel
              have HB3 := Lib.hid hb3
              by_cases hjt : j < P.length
              · obtain ⟨p, hp⟩ := some_at P hjt
                obtain ⟨pb, poff, rfl, pc0⟩ := (HP.out.below (bthen HBW.out hb3)).at hp
                have hjti : (j : Int) < (P.length : Int) := by omega
                have hj0 : (0 : Int) ≤ (j : Int) := Int.natCast_nonneg _
                obtain ⟨d0, _⟩ := HDA.out.below hb3
                have HTK2 := Lib.hid (take_snoc hp)
                have HMEM := Lib.hid (List.mem_of_getElem? hp)
                have HNO := Lib.hid hno
                have hz0 : (0 : Int) ≤ 0 := by decide
                clear hno hp hb3 c0 c1 c2 c3 c4 c5 c6 c7 c8 c9 c10
                rcases Int.lt_or_le p v.a with hpa | hpa
                · have hany : P.any (fun p => decide (p < v.a)) = true := List.any_eq_true.2 ⟨p, HMEM.out, by simpa using hpa⟩
                  have hT : trimF L P = v :: M := by rw [HTK.out, ← HDW.out, List.dropWhile_cons, HID.out, hany]; rfl
                  have HT2 := Lib.hid hT
                  clear hT hany
                  go_wp2_with fail
                  go_quiet (fail)
                  go_wp2_with fail
                  go_ret
                  rw [HT2.out]
                  exact ⟨_, _, rfl, (HD3.out.below HB3.out).drewN _, bdrew (bthen HBW.out HB3.out) _⟩
                · have hnp : decide (p < v.a) = false := by rw [decide_eq_false_iff_not]; omega
                  go_wp2_with fail
                  go_quiet (fail)
                  go_wp2_with fail
                  go_roundw
                  case rel => exact ⟨j + 1, by go_num, by omega, by rw [HTK2.out, List.any_append, HNO.out]; simpa using hpa, bdrew HB3.out _⟩
                  case measure => simp [intOf]; omega
              · have hje : j = P.length := by omega
                subst hje
                rw [List.take_length] at hno
                have hid2 : idleF P v = true := by rw [HID.out, hno]; rfl
                have hdw2 : M.dropWhile (idleF P) = K.dropWhile (idleF P) := by rw [← HDW.out, List.dropWhile_cons, hid2]; rfl
                have HDW2 := Lib.hid hdw2
                clear hdw2 hid2 hno c0 c1 c2 c3 c4 c5 c6 c7 c8 c9 c10
                go_wp2_with fail
                have hb4 := bthen HBW.out HB3.out
                have hVt := HTL.out.below HB3.out
                have hml2 : M.length + 1 ≤ c3 := by simpa using hc31
                have hml3 : M.length + 1 ≤ L.length := by simpa using hml
                by_cases hc1 : c3 = 1
                · have hM0 : M = [] := List.length_eq_zero_iff.1 (by omega)
                  subst hM0
                  exact ⟨⟨[], _, _, rfl, .inl rfl, by simp, by omega, fun e => (by rw [if_pos hc1] at e; cases e), HDW2.out, by simp, hb4⟩, by simp [lenV]⟩
                · rw [if_neg hc1]
                  exact ⟨⟨M, _, _, rfl, hVt, by omega, by omega, fun e => (by cases e), HDW2.out, by omega, hb4⟩, by simp [lenV]⟩
end Go.Proofs.Ytpbdgfgjlccapaa.cw
