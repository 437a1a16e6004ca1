/-
  The walk of the law ChainPlays: whatever versions are put, and trimmed by any pins.
-/
import Derived.Test.YtpbdgfgjlccapaaChnU
import Derived.Deep.DeepCutAuto
import Derived.Deep.CutRange
namespace Go.Proofs.Ytpbdgfgjlccapaa.cw
open Go.RowKit Go.Proofs.Ytpbdgfgjlccapaa.ba Go.Proofs.Ytpbdgfgjlccapaa.rp Go.Proofs.Ytpbdgfgjlccapaa.rw Go.Proofs.Ytpbdgfgjlccapaa.cp
set_option maxRecDepth 8000
set_option linter.unusedVariables false
attribute [local go_sem ↓] Go.wp_at_zero Go.wp_at_succ

/-- An act among others: its cells. -/
theorem AL.at {w : World} {a : Option Addr} {L : List A} (h : AL w a L) {k : Nat} {t : Bool} {v : V} {pa : Option Addr} {pc : Nat} {P : List Int} (hx : L[k]? = some ⟨t, v, pa, pc, P⟩) : ∃ b off, a = some ⟨b, off, none⟩ ∧ w.cell? ⟨b, off + k * 13, none⟩ = some (.bool t) ∧ w.cell? ⟨b, off + k * 13 + 1, none⟩ = some (.int .u64 v.a) ∧ w.cell? ⟨b, off + k * 13 + 2, none⟩ = some (.bool v.d) ∧ w.cell? ⟨b, off + k * 13 + 3, none⟩ = some (.int .u8 v.r.k) ∧ w.cell? ⟨b, off + k * 13 + 4, none⟩ = some (.int .u8 v.r.s) ∧ w.cell? ⟨b, off + k * 13 + 5, none⟩ = some (.int .u8 v.r.u) ∧ w.cell? ⟨b, off + k * 13 + 6, none⟩ = some (.int .u8 v.r.p) ∧ w.cell? ⟨b, off + k * 13 + 7, none⟩ = some (.int .u8 v.r.m) ∧ w.cell? ⟨b, off + k * 13 + 8, none⟩ = some (.bool v.r.g) ∧ w.cell? ⟨b, off + k * 13 + 9, none⟩ = some (.int .u32 v.r.v) ∧ w.cell? ⟨b, off + k * 13 + 10, none⟩ = some (.int .u64 v.r.a) ∧ w.cell? ⟨b, off + k * 13 + 11, none⟩ = some (.string v.r.t) ∧ w.cell? ⟨b, off + k * 13 + 12, none⟩ = some (.slice pa P.length pc) := by
  rcases h with rfl | ⟨b, off, rfl, h⟩
  · simp at hx
  · have hh := fun j u (hj : (acells ⟨t, v, pa, pc, P⟩)[j]? = some u) => h k _ hx j u hj
    exact ⟨b, off, rfl, hh 0 _ rfl, hh 1 _ rfl, hh 2 _ rfl, hh 3 _ rfl, hh 4 _ rfl, hh 5 _ rfl, hh 6 _ rfl, hh 7 _ rfl, hh 8 _ rfl, hh 9 _ rfl, hh 10 _ rfl, hh 11 _ rfl, hh 12 _ rfl⟩
theorem dnine_blk {r : R} {W : World} {g : Nat} (h : Blk W g 51 (#[.int .i64 r.k, .int .i64 r.s, .int .i64 r.u, .int .i64 r.p, .int .i64 r.m, .bool r.g, .int .u64 r.v, .int .u64 r.a, .string r.t])) : (W.cell? ⟨g, 0, none⟩ = some (.int .i64 r.k) ∧ W.cell? ⟨g, 1, none⟩ = some (.int .i64 r.s) ∧ W.cell? ⟨g, 2, none⟩ = some (.int .i64 r.u) ∧ W.cell? ⟨g, 3, none⟩ = some (.int .i64 r.p) ∧ W.cell? ⟨g, 4, none⟩ = some (.int .i64 r.m) ∧ W.cell? ⟨g, 5, none⟩ = some (.bool r.g) ∧ W.cell? ⟨g, 6, none⟩ = some (.int .u64 r.v) ∧ W.cell? ⟨g, 7, none⟩ = some (.int .u64 r.a) ∧ W.cell? ⟨g, 8, none⟩ = some (.string r.t)) :=
  ⟨h.cell 0, h.cell 1, h.cell 2, h.cell 3, h.cell 4, h.cell 5, h.cell 6, h.cell 7, h.cell 8⟩
theorem AL.below {w w' : World} {a : Option Addr} {L : List A} (h : AL w a L) (hb : Below w.heap.size w w') : AL w' a L := by
  rcases h with h | ⟨b, off, rfl, h⟩
  · exact .inl h
  · exact .inr ⟨b, off, rfl, fun i x hx j u hj => bsome hb (h i x hx j u hj) (World.block_lt_of_cell? _ _ (h i x hx j u hj))⟩
set_option maxRecDepth 100000 in
set_option maxHeartbeats 16000000 in
theorem chainPlays_any (a : Option Addr) (n c : Nat) (L : List A) (time : Int) (w : World) (hn : L.length = n) (hL : AL w a L) (hok : ∀ x ∈ L, AOk w x) :
    Calls Try.prog 5 #[.slice a n c, .int .u64 time] w fun x w' => x = .returned (.bool true) ∧ Below w.heap.size w w' := by
  subst hn
  have HS0 := Lib.hid (PS.start w)
  have HL := Lib.hid hL
  have HOK := Lib.hid hok
  clear hL hok
  go_enter Try.func5, Try.ntmps5
  go_wp2_with fail
  go_loopw [6, 7] (fun l i wr => ∃ (k : Nat) (q : Option Nat) (la : Option Addr) (lc : Nat) (D : List V), l = .slice la D.length lc ∧ i = .int .i64 k ∧ k ≤ L.length ∧ k ≤ 30 ∧ PS w wr q la D k) (fun _ i _ => 30 - (intOf i).toNat)
  case atStart => exact ⟨0, none, none, 0, [], rfl, rfl, Nat.zero_le _, Nat.zero_le _, HS0.out⟩
  case round =>
    obtain ⟨k, q, la, lc, D, rfl, rfl, hk, hk30, hS⟩ := hrel
    by_cases hlt : k < L.length ∧ k < 30
    · obtain ⟨hlt, h30⟩ := hlt
      have hlti : (k : Int) < (L.length : Int) := by omega
      have h30i : (k : Int) < 30 := by omega
      have hk0 : (0 : Int) ≤ (k : Int) := Int.natCast_nonneg _
      obtain ⟨⟨t, v, pa, pc, P⟩, hx⟩ : ∃ x, L[k]? = some x := ⟨_, List.getElem?_eq_getElem hlt⟩
      obtain ⟨ab, aoff, rfl, c0, c1, c2, c3, c4, c5, c6, c7, c8, c9, c10, c11, c12⟩ := (HL.out.below hS.b).at hx
      have HA := Lib.hid (HOK.out _ (List.mem_of_getElem? hx))
      have HS := Lib.hid hS
      clear hx hS
      go_upto_if 37 with (fail)
      go_cut [6] (fun l wx => ∃ (q : Option Nat) (la : Option Addr) (lc : Nat) (D : List V), l = .slice la D.length lc ∧ PS w wx q la D (k + 1))
      case first =>
        have HPS := Lib.hid fun (o : Obj) => HS.out.below (box_b wr o)
        have HAv := Lib.hid HA.out.v
        have hDk := HS.out.l
        have hDi : (D.length : Int) ≤ 30 := by omega
        cases t with
        | true =>
          obtain ⟨Q, hQ⟩ : ∃ Q, P.take 8 = Q := ⟨_, rfl⟩
          have hQl : Q.length = min P.length 8 := by rw [← hQ, List.length_take]; omega
          have hmn : (if (8 : Int) < (P.length : Int) then (8 : Int) else (P.length : Int)) = (Q.length : Int) := by rw [hQl]; split <;> omega
          have hmin : ∀ W, (Builtin.min_ #[3, 3] 3 #[.int .i64 (P.length : Int), .int .i64 8]).run Try.prog W = .ok (.int .i64 (Q.length : Int)) W := fun W => by rw [run_min_int2, hmn]
          have HQP := Lib.hid fun (W : World) (h : Below w.heap.size w W) => (hQ ▸ ((HA.out.p.take 8).below h) : Lst .u64 W pa Q)
          have hQ8 : Q.length ≤ 8 := by omega
          have hQc : (Q.length : Int) ≤ (pc : Int) := by have := HA.out.c; simp only at this; omega
          have hQ0 : (0 : Int) ≤ (Q.length : Int) := Int.natCast_nonneg _
          have HTr := Lib.hid fun (W : World) (h : PS w W q la D k) => dtrim_any la D.length lc pa Q.length pc D Q W rfl (by omega) h.d (HQP.out W h.b) rfl (by omega)
          have HCt := Lib.hid fun (W : World) (na : Option Addr) (h : PS w W q la D k) (hd : DL W na (trimF D Q)) => h.trim (by omega) pa Q.length pc Q (HQP.out W h.b) rfl (by omega) hd
          have hTl : ((trimF D Q).length : Int) ≤ (D.length : Int) := by have := trim_le D Q; omega
          generalize trimF D Q = T at *
          clear hmn hQl hQ
          go_wp2_with (first
            | (go_at_call 15; ((with_reducible refine (HTr.out _ (HPS.out _)).mono ?_); rintro x w1 ⟨na, nc, rfl, hd1, hb1⟩; have HP1 := Lib.hid ((HPS.out _).below hb1); have HD1 := Lib.hid hd1; clear hd1 hb1))
            | (go_at_call 9; ((with_reducible refine (HCt.out _ _ HP1.out HD1.out).mono ?_); rintro x w2 ⟨rfl, q2, hS2⟩; have HS2 := Lib.hid hS2; clear hS2))
            | fail)
          go_meet
          exact ⟨q2, na, nc, T, rfl, ⟨HS2.out.c, HS2.out.q, HS2.out.d, HS2.out.b, HS2.out.ok, by have := HS2.out.l; omega⟩⟩
        | false =>
          have HC := Lib.hid fun (W : World) => cut_any v false W HAv.out
          have hyo := cutV_ok HAv.out false
          generalize cutV v false = y at *
          have HOF := Lib.hid fun (W : World) => vof_any y W hyo
          have hPUT := fun (W : World) (h : PS w W q la D k) => dput_any la D.length lc D y W rfl (by omega) h.d hyo
          unfold DPut at hPUT
          have hCP := fun (W : World) (na : Option Addr) (h : PS w W q la D k) (hd : DL W na (puts D [y]).1) => h.put (by omega) y hyo hd
          by_cases h0 : put1 D y = 0
          · have hp : puts D [y] = (D ++ [y], 1, 0) := by rw [puts_one, if_neg (by simp [h0])]
            rw [hp] at hPUT hCP
            rw [h0] at hPUT
            simp only at hPUT hCP
            rw [show ((1 : Nat) : Int) = 1 from rfl] at hCP
            generalize D ++ [y] = D2 at *
            have HPUT := Lib.hid hPUT
            have HCP := Lib.hid hCP
            clear hPUT hCP hp h0
            go_wp2_with (first
              | (go_at_call 16; ((with_reducible refine (HC.out _).mono ?_); rintro x w1 ⟨rfl, hb1⟩; have HP1 := Lib.hid (((HPS.out _).below hb1).below (box_b w1 (.cells (#[.int .u64 y.a, .bool y.d, .int .u8 y.r.k, .int .u8 y.r.s, .int .u8 y.r.u, .int .u8 y.r.p, .int .u8 y.r.m, .bool y.r.g, .int .u32 y.r.v, .int .u64 y.r.a, .string y.r.t]) 43))); clear hb1))
              | (go_at_call 18; ((with_reducible refine (HOF.out _).mono ?_); rintro x w2 ⟨rfl, hb2⟩; have HP2 := Lib.hid (HP1.out.below hb2); have HX2 := Lib.hid ((Blk.new w1 43 (#[.int .u64 y.a, .bool y.d, .int .u8 y.r.k, .int .u8 y.r.s, .int .u8 y.r.u, .int .u8 y.r.p, .int .u8 y.r.m, .bool y.r.g, .int .u32 y.r.v, .int .u64 y.r.a, .string y.r.t])).below hb2); clear hb2))
              | (go_at_call 17; ((with_reducible refine (HPUT.out _ HP2.out).mono ?_); rintro x w3 ⟨na, nc, rfl, hd3, hb3⟩; have HP3 := Lib.hid (HP2.out.below hb3); have HD3 := Lib.hid hd3; obtain ⟨e0, e1, e2, e3, e4, e5, e6, e7, e8, e9, e10⟩ := elev_blk (HX2.out.below hb3); clear hd3 hb3))
              | (go_at_call 19; ((with_reducible refine (HCP.out _ _ HP3.out HD3.out).mono ?_); rintro x w4 ⟨rfl, q4, hS4⟩; have HS4 := Lib.hid hS4; clear hS4))
              | fail)
            go_meet
            exact ⟨q4, na, nc, D2, rfl, HS4.out⟩
          · have hp : puts D [y] = (D, 0, put1 D y) := by rw [puts_one, if_pos h0]
            rw [hp] at hPUT hCP
            simp only at hPUT hCP
            rw [show ((0 : Nat) : Int) = 0 from rfl] at hCP
            obtain ⟨D2, hD2⟩ : ∃ D2, D2 = D := ⟨_, rfl⟩
            generalize put1 D y = E at *
            have hE0 : (E == 0) = false := by simpa using h0
            have HPUT := Lib.hid hPUT
            have HCP := Lib.hid hCP
            clear hPUT hCP hp h0
            go_wp2_with (first
              | (go_at_call 16; ((with_reducible refine (HC.out _).mono ?_); rintro x w1 ⟨rfl, hb1⟩; have HP1 := Lib.hid (((HPS.out _).below hb1).below (box_b w1 (.cells (#[.int .u64 y.a, .bool y.d, .int .u8 y.r.k, .int .u8 y.r.s, .int .u8 y.r.u, .int .u8 y.r.p, .int .u8 y.r.m, .bool y.r.g, .int .u32 y.r.v, .int .u64 y.r.a, .string y.r.t]) 43))); clear hb1))
              | (go_at_call 18; ((with_reducible refine (HOF.out _).mono ?_); rintro x w2 ⟨rfl, hb2⟩; have HP2 := Lib.hid (HP1.out.below hb2); have HX2 := Lib.hid ((Blk.new w1 43 (#[.int .u64 y.a, .bool y.d, .int .u8 y.r.k, .int .u8 y.r.s, .int .u8 y.r.u, .int .u8 y.r.p, .int .u8 y.r.m, .bool y.r.g, .int .u32 y.r.v, .int .u64 y.r.a, .string y.r.t])).below hb2); clear hb2))
              | (go_at_call 17; ((with_reducible refine (HPUT.out _ HP2.out).mono ?_); rintro x w3 ⟨na, nc, rfl, hd3, hb3⟩; have HP3 := Lib.hid (HP2.out.below hb3); have HD3 := Lib.hid hd3; obtain ⟨e0, e1, e2, e3, e4, e5, e6, e7, e8, e9, e10⟩ := elev_blk (HX2.out.below hb3); clear hd3 hb3))
              | (go_at_call 19; ((with_reducible refine (HCP.out _ _ HP3.out HD3.out).mono ?_); rintro x w4 ⟨rfl, q4, hS4⟩; have HS4 := Lib.hid hS4; clear hS4))
              | fail)
            go_meet
            exact ⟨q4, na, nc, D, rfl, HS4.out⟩
      case rest =>
        obtain ⟨q2, la2, lc2, D2, rfl, hS2⟩ := hcut
        have HS2 := Lib.hid hS2
        have hl2 := hS2.l
        have hDi : (D2.length : Int) ≤ 31 := by omega
        clear hS2 HS HA
        go_wp2_with fail
        generalize wc = y2 at *
        go_loopw [16] (fun i wx => ∃ j : Nat, i = .int .i64 j ∧ j ≤ D2.length + 1 ∧ PS w wx q2 la2 D2 (k + 1)) (fun i _ => D2.length + 1 - (intOf i).toNat)
        case atStart => exact ⟨0, rfl, Nat.zero_le _, HS2.out⟩
        case round =>
          obtain ⟨j, rfl, hj, hS⟩ := hrel
          by_cases hjl : j ≤ D2.length
          · have hji : (j : Int) ≤ (D2.length : Int) := by omega
            have HS := Lib.hid hS
            have hDj := hS
            clear hDj
            go_upto_if 94 with (fail)
            go_cut [17] (fun at' wx => ∃ t : Int, at' = .int .u64 t ∧ wx = wr)
            case first =>
              rcases Nat.lt_or_ge j D2.length with h1 | h1
              · have h1i : (j : Int) < (D2.length : Int) := by omega
                have hj0 : (0 : Int) ≤ (j : Int) := Int.natCast_nonneg _
                obtain ⟨u, hu⟩ := at_some h1
                obtain ⟨db, doff, rfl, d0, _⟩ := hS.d.at hu
                clear hS
                go_wp2_with fail
                go_meet
                exact ⟨_, rfl, rfl⟩
              · have h1i : (D2.length : Int) ≤ (j : Int) := by omega
                clear hS
                go_wp2_with fail
                go_meet
                exact ⟨_, rfl, rfl⟩
            case rest =>
              obtain ⟨t, rfl, rfl⟩ := hcut
              have hcp := hS.cp (by omega)
              have HA1 := Lib.hid (at_any (some ⟨w.heap.size, 0, none⟩) t D2 wc hcp)
              have HA2 := Lib.hid fun (W : World) (h : Below wc.heap.size wc W) => dat_any la2 D2.length lc2 t D2 W rfl (by omega) (hS.d.below h)
              have hrok := atF_ok hS.ok t
              generalize (atF D2 t).1 = r at *
              generalize (atF D2 t).2 = b at *
              have hnb := neq_run b
              have hnr := dneq_self r
              have HR := Lib.hid fun (W : World) => recof_any r W hrok
              clear hcp hrok hS
              go_wp2_with (first
                | (go_at_call 10; ((with_reducible refine HA1.out.mono ?_); rintro x W1 ⟨rfl, hb1⟩; have hbB := bthen hb1 (box_b W1 (.cells (#[.int .u8 r.k, .int .u8 r.s, .int .u8 r.u, .int .u8 r.p, .int .u8 r.m, .bool r.g, .int .u32 r.v, .int .u64 r.a, .string r.t]) 30)); clear hb1))
                | (go_at_call 20; ((with_reducible refine (HA2.out _ hbB).mono ?_); rintro x W2 ⟨rfl, hb2⟩))
                | fail)
              have HX1 := Lib.hid (((Blk.new W1 30 (#[.int .u8 r.k, .int .u8 r.s, .int .u8 r.u, .int .u8 r.p, .int .u8 r.m, .bool r.g, .int .u32 r.v, .int .u64 r.a, .string r.t])).below hb2).alloc (.cells (#[.int .i64 r.k, .int .i64 r.s, .int .i64 r.u, .int .i64 r.p, .int .i64 r.m, .bool r.g, .int .u64 r.v, .int .u64 r.a, .string r.t]) 51))
              have HX2 := Lib.hid (Blk.new W2 51 (#[.int .i64 r.k, .int .i64 r.s, .int .i64 r.u, .int .i64 r.p, .int .i64 r.m, .bool r.g, .int .u64 r.v, .int .u64 r.a, .string r.t]))
              have hbX := bthen (bthen hbB hb2) (box_b W2 (.cells (#[.int .i64 r.k, .int .i64 r.s, .int .i64 r.u, .int .i64 r.p, .int .i64 r.m, .bool r.g, .int .u64 r.v, .int .u64 r.a, .string r.t]) 51))
              clear hb2 hbB HA1 HA2
              generalize (W2.alloc (.cells (#[.int .i64 r.k, .int .i64 r.s, .int .i64 r.u, .int .i64 r.p, .int .i64 r.m, .bool r.g, .int .u64 r.v, .int .u64 r.a, .string r.t]) 51)) = X at *
              have hS3 : ∀ Y, Below X.heap.size X Y → (Y.cell? ⟨W1.heap.size, 0, none⟩ = some (.int .u8 r.k) ∧ Y.cell? ⟨W1.heap.size, 1, none⟩ = some (.int .u8 r.s) ∧ Y.cell? ⟨W1.heap.size, 2, none⟩ = some (.int .u8 r.u) ∧ Y.cell? ⟨W1.heap.size, 3, none⟩ = some (.int .u8 r.p) ∧ Y.cell? ⟨W1.heap.size, 4, none⟩ = some (.int .u8 r.m) ∧ Y.cell? ⟨W1.heap.size, 5, none⟩ = some (.bool r.g) ∧ Y.cell? ⟨W1.heap.size, 6, none⟩ = some (.int .u32 r.v) ∧ Y.cell? ⟨W1.heap.size, 7, none⟩ = some (.int .u64 r.a) ∧ Y.cell? ⟨W1.heap.size, 8, none⟩ = some (.string r.t)) ∧ (Y.cell? ⟨W2.heap.size, 0, none⟩ = some (.int .i64 r.k) ∧ Y.cell? ⟨W2.heap.size, 1, none⟩ = some (.int .i64 r.s) ∧ Y.cell? ⟨W2.heap.size, 2, none⟩ = some (.int .i64 r.u) ∧ Y.cell? ⟨W2.heap.size, 3, none⟩ = some (.int .i64 r.p) ∧ Y.cell? ⟨W2.heap.size, 4, none⟩ = some (.int .i64 r.m) ∧ Y.cell? ⟨W2.heap.size, 5, none⟩ = some (.bool r.g) ∧ Y.cell? ⟨W2.heap.size, 6, none⟩ = some (.int .u64 r.v) ∧ Y.cell? ⟨W2.heap.size, 7, none⟩ = some (.int .u64 r.a) ∧ Y.cell? ⟨W2.heap.size, 8, none⟩ = some (.string r.t)) := fun Y hb => ⟨nine_blk (HX1.out.below hb), dnine_blk (HX2.out.below hb)⟩
              have hbx : Below X.heap.size X X.drew := bdr0 X
              obtain ⟨⟨c0, c1, c2, c3, c4, c5, c6, c7, c8⟩, ⟨d0, d1, d2, d3, d4, d5, d6, d7, d8⟩⟩ := hS3 X.drew hbx
              have HS3 := Lib.hid hS3
              have HBX := Lib.hid hbX
              clear hS3 HX1 HX2 hbX
              go_region_held3 (fun w' => (w'.cell? ⟨W1.heap.size, 0, none⟩ = some (.int .u8 r.k) ∧ w'.cell? ⟨W1.heap.size, 1, none⟩ = some (.int .u8 r.s) ∧ w'.cell? ⟨W1.heap.size, 2, none⟩ = some (.int .u8 r.u) ∧ w'.cell? ⟨W1.heap.size, 3, none⟩ = some (.int .u8 r.p) ∧ w'.cell? ⟨W1.heap.size, 4, none⟩ = some (.int .u8 r.m) ∧ w'.cell? ⟨W1.heap.size, 5, none⟩ = some (.bool r.g) ∧ w'.cell? ⟨W1.heap.size, 6, none⟩ = some (.int .u32 r.v) ∧ w'.cell? ⟨W1.heap.size, 7, none⟩ = some (.int .u64 r.a) ∧ w'.cell? ⟨W1.heap.size, 8, none⟩ = some (.string r.t)) ∧ (w'.cell? ⟨W2.heap.size, 0, none⟩ = some (.int .i64 r.k) ∧ w'.cell? ⟨W2.heap.size, 1, none⟩ = some (.int .i64 r.s) ∧ w'.cell? ⟨W2.heap.size, 2, none⟩ = some (.int .i64 r.u) ∧ w'.cell? ⟨W2.heap.size, 3, none⟩ = some (.int .i64 r.p) ∧ w'.cell? ⟨W2.heap.size, 4, none⟩ = some (.int .i64 r.m) ∧ w'.cell? ⟨W2.heap.size, 5, none⟩ = some (.bool r.g) ∧ w'.cell? ⟨W2.heap.size, 6, none⟩ = some (.int .u64 r.v) ∧ w'.cell? ⟨W2.heap.size, 7, none⟩ = some (.int .u64 r.a) ∧ w'.cell? ⟨W2.heap.size, 8, none⟩ = some (.string r.t)))
                (first | (refine ⟨⟨?_, ?_, ?_, ?_, ?_, ?_, ?_, ?_, ?_⟩, ⟨?_, ?_, ?_, ?_, ?_, ?_, ?_, ?_, ?_⟩⟩ <;> with_reducible assumption) | fail)
                (first
                  | (go_at_call 21; ((with_reducible refine (HR.out _).mono ?_); rintro x W3 ⟨rfl, hb3⟩; have hbY := bthen hbx hb3; clear hb3; obtain ⟨⟨e0, e1, e2, e3, e4, e5, e6, e7, e8⟩, ⟨f0, f1, f2, f3, f4, f5, f6, f7, f8⟩⟩ := HS3.out _ hbY))
                  | fail)
              all_goals
                have hbE := bthen HBX.out hbY
                go_wp2_with fail
                refine ⟨⟨j + 1, by go_num, by omega, HS.out.below hbE⟩, ?_⟩
                simp [intOf]
                omega
          · have hje : j = D2.length + 1 := by omega
            have hji : (D2.length : Int) < (j : Int) := by omega
            have HS := Lib.hid hS
            have HH := Lib.hid (holds_any w.heap.size w.heap.size q2 la2 D2.length lc2 D2 wr rfl (by omega) hS.c hS.d hS.ok)
            clear hS hje hjl hj
            go_wp2_with (first
              | (go_at_call 22; ((with_reducible refine HH.out.mono ?_); rintro x w5 ⟨rfl, hb5⟩))
              | fail)
            refine ⟨⟨k + 1, q2, la2, lc2, D2, rfl, by go_num, by omega, by omega, HS.out.below hb5⟩, ?_⟩
            simp [intOf]
            omega
    · have HK := Lib.hid fun (W : World) => known_any W
      have HS := Lib.hid hS.b
      clear hS
      rcases (by omega : ¬ k < L.length ∨ (k < L.length ∧ ¬ k < 30)) with h1 | ⟨h1, h2⟩
      · have h1i : (L.length : Int) ≤ (k : Int) := by omega
        clear hlt
        go_wp2_with (first
          | (go_at_call 12; ((with_reducible refine (HK.out _).mono ?_); rintro x w3 ⟨rfl, hb3⟩))
          | fail)
        go_ret
        exact ⟨rfl, bthen HS.out hb3⟩
      · have h1i : (k : Int) < (L.length : Int) := by omega
        have h2i : (30 : Int) ≤ (k : Int) := by omega
        clear hlt
        go_wp2_with (first
          | (go_at_call 12; ((with_reducible refine (HK.out _).mono ?_); rintro x w3 ⟨rfl, hb3⟩))
          | fail)
        go_ret
        exact ⟨rfl, bthen HS.out hb3⟩
end Go.Proofs.Ytpbdgfgjlccapaa.cw
