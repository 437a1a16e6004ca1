/-
  The walks of layer 12's laws: has a chain just these versions?
-/
import Derived.Test.YtpbdgfgjlccapaaChnQ
namespace Go.Proofs.Ytpbdgfgjlccapaa.cw
open Go.RowKit Go.Proofs.Ytpbdgfgjlccapaa.ba Go.Proofs.Ytpbdgfgjlccapaa.rp Go.Proofs.Ytpbdgfgjlccapaa.rw Go.Proofs.Ytpbdgfgjlccapaa.cp
set_option maxRecDepth 8000
set_option linter.unusedVariables false
attribute [local go_sem ↓] Go.wp_at_zero Go.wp_at_succ

set_option maxHeartbeats 2000000 in
theorem dver_self (v : V) (W : World) : (binOp .neq 53 (.agg #[.int .u64 v.a, .bool v.d, .int .i64 v.r.k, .int .i64 v.r.s, .int .i64 v.r.u, .int .i64 v.r.p, .int .i64 v.r.m, .bool v.r.g, .int .u64 v.r.v, .int .u64 v.r.a, .string v.r.t]) (.agg #[.int .u64 v.a, .bool v.d, .int .i64 v.r.k, .int .i64 v.r.s, .int .i64 v.r.u, .int .i64 v.r.p, .int .i64 v.r.m, .bool v.r.g, .int .u64 v.r.v, .int .u64 v.r.a, .string v.r.t])).run Try.prog W = .ok (.bool false) W := by
  have hu : Try.prog.underlying 53 = some (.struct (Try.prog.fieldsOf 53)) := by kernel_rfl
  have hs : Try.prog.stoodInHeld 53 = false := by kernel_rfl
  rw [run_neq_struct, run_equalIn_agg W 9999 _ _ _ hu hs]
  simp [go_sem]
theorem VAt.elo {w : World} {b o : Nat} {v : V} (h : VAt w ⟨b, o, none⟩ v) : (w.cell? ⟨b, o, none⟩ = some (.int .u64 v.a) ∧ w.cell? ⟨b, o + 1, none⟩ = some (.bool v.d) ∧ w.cell? ⟨b, o + 2, none⟩ = some (.int .u8 v.r.k) ∧ w.cell? ⟨b, o + 3, none⟩ = some (.int .u8 v.r.s) ∧ w.cell? ⟨b, o + 4, none⟩ = some (.int .u8 v.r.u) ∧ w.cell? ⟨b, o + 5, none⟩ = some (.int .u8 v.r.p) ∧ w.cell? ⟨b, o + 6, none⟩ = some (.int .u8 v.r.m) ∧ w.cell? ⟨b, o + 7, none⟩ = some (.bool v.r.g) ∧ w.cell? ⟨b, o + 8, none⟩ = some (.int .u32 v.r.v) ∧ w.cell? ⟨b, o + 9, none⟩ = some (.int .u64 v.r.a) ∧ w.cell? ⟨b, o + 10, none⟩ = some (.string v.r.t)) := h
theorem DAt.elo {w : World} {b o : Nat} {v : V} (h : DAt w b o v) : (w.cell? ⟨b, o, none⟩ = some (.int .u64 v.a) ∧ w.cell? ⟨b, o + 1, none⟩ = some (.bool v.d) ∧ w.cell? ⟨b, o + 2, none⟩ = some (.int .i64 v.r.k) ∧ w.cell? ⟨b, o + 3, none⟩ = some (.int .i64 v.r.s) ∧ w.cell? ⟨b, o + 4, none⟩ = some (.int .i64 v.r.u) ∧ w.cell? ⟨b, o + 5, none⟩ = some (.int .i64 v.r.p) ∧ w.cell? ⟨b, o + 6, none⟩ = some (.int .i64 v.r.m) ∧ w.cell? ⟨b, o + 7, none⟩ = some (.bool v.r.g) ∧ w.cell? ⟨b, o + 8, none⟩ = some (.int .u64 v.r.v) ∧ w.cell? ⟨b, o + 9, none⟩ = some (.int .u64 v.r.a) ∧ w.cell? ⟨b, o + 10, none⟩ = some (.string v.r.t)) := h
theorem DAt.below {w w' : World} {b o : Nat} {v : V} (h : DAt w b o v) (hb : Below w.heap.size w w') : DAt w' b o v := by
  have hlt := World.block_lt_of_cell? _ _ h.1
  obtain ⟨c0, c1, c2, c3, c4, c5, c6, c7, c8, c9, c10⟩ := h
  exact ⟨bsome hb c0 hlt, bsome hb c1 hlt, bsome hb c2 hlt, bsome hb c3 hlt, bsome hb c4 hlt, bsome hb c5 hlt, bsome hb c6 hlt, bsome hb c7 hlt, bsome hb c8 hlt, bsome hb c9 hlt, bsome hb c10 hlt⟩
set_option maxRecDepth 100000 in
set_option maxHeartbeats 8000000 in
theorem holds_any (base g : Nat) (q : Option Nat) (a : Option Addr) (n c : Nat) (L : List V) (w : World) (hn : L.length = n) (hl : n ≤ 1000) (hC : CS w base g q L) (hL : DL w a L) (hok : ∀ v ∈ L, v.ok) :
    Calls Try.prog 22 #[.pointer (some ⟨g, 0, none⟩), .slice a n c] w fun e w' => e = .returned (.bool true) ∧ Below w.heap.size w w' := by
  subst hn
  have hCP := hC.cp (by omega)
  obtain ⟨sv, hB, hO, hq⟩ := hC
  obtain ⟨ca, cc, rfl, hVL, _, _, hcn⟩ := hO.vl2
  have HList := Lib.hid (list_any g 0 ca L.length cc L w rfl (by omega) (hB.cell 0) hVL hcn)
  have HLen := Lib.hid fun (W : World) (h : Below w.heap.size w W) => (len_any (some ⟨g, 0, none⟩) L W (hCP.below h))
  have HNew := Lib.hid fun (W : World) (h : Below w.heap.size w W) => (newest_any (some ⟨g, 0, none⟩) L W (hCP.below h)).mono fun x W' hx => (⟨hx.1, hx.2, bthen h hx.2⟩ : _ ∧ Below W.heap.size W W' ∧ Below w.heap.size w W')
  have HLive := Lib.hid fun (W : World) (h : Below w.heap.size w W) => (live_any (some ⟨g, 0, none⟩) L W (hCP.below h)).mono fun x W' hx => (⟨hx.1, hx.2, bthen h hx.2⟩ : _ ∧ Below W.heap.size W W' ∧ Below w.heap.size w W')
  have HDN := Lib.hid fun (W : World) (h : Below w.heap.size w W) => dnewest_any a L.length c L W rfl (by omega) (hL.below h)
  have HL := Lib.hid hL
  have HOK := Lib.hid hok
  have Hl := Lib.hid hl
  clear hCP hB hO hVL hcn hL hok hl
  rcases Nat.eq_zero_or_pos L.length with h0 | h0
  · have : L = [] := List.length_eq_zero_iff.1 h0
    subst this
    have hlv : liveF ([] : List V) = false := rfl
    have hnw : newestF ([] : List V) = 0 := rfl
    rw [hlv] at HLive
    rw [hnw] at HNew HDN
    rw [show (([] : List V).length) = 0 from rfl] at HLen HDN ⊢
    rw [show ((0 : Nat) : Int) = 0 from rfl] at HLen
    clear hlv hnw
    go_enter Try.func22, Try.ntmps22
    go_wp2_with (first
      | (go_at_call 23; ((with_reducible refine HList.out.mono ?_); rintro x w1 ⟨v', rfl, hvo', hb1⟩; obtain ⟨xa, xc, hvv, hxl⟩ := hvo'.vl; subst hvv; have HX := Lib.hid hxl; clear hvo' hxl))
      | (go_at_call 14; ((with_reducible refine (HLen.out _ (by with_reducible assumption)).mono ?_); rintro x w2 ⟨rfl, rfl⟩))
      | (go_at_call 11; ((with_reducible refine (HNew.out _ (by with_reducible assumption)).mono ?_); rintro x w3 ⟨rfl, hb3, hbw3⟩))
      | (go_at_call 32; ((with_reducible refine (HDN.out _ (by with_reducible assumption)).mono ?_); rintro x w4 ⟨rfl, rfl⟩))
      | (go_at_call 13; ((with_reducible refine (HLive.out _ (by with_reducible assumption)).mono ?_); rintro x w5 ⟨rfl, hb5, hbw5⟩))
      | fail)
    have HW5 := Lib.hid hbw5
    clear hb3 hb5 hbw3 hb1
    go_loopw [6] (fun i wr => i = .int .i64 0 ∧ Below w.heap.size w wr) (fun i _ => 0)
    case atStart => exact ⟨rfl, HW5.out⟩
    case round =>
      obtain ⟨rfl, hbwr⟩ := hrel
      go_wp2_with fail
      go_ret
      exact ⟨rfl, hbwr⟩
  · obtain ⟨k, hk⟩ : ∃ k, L.length = k + 1 := ⟨L.length - 1, by omega⟩
    obtain ⟨v, hv⟩ := at_some (show k < L.length by omega)
    have hlv : liveF L = !v.d := by unfold liveF; rw [last_at hk.symm hv]; rfl
    rw [hlv] at HLive
    obtain ⟨lb, loff, rfl, hda⟩ := HL.out.at hv
    have HD := Lib.hid hda
    have hpos : (0 : Int) < (L.length : Int) := by omega
    have hsub : (L.length : Int) - 1 = (k : Int) := by omega
    have hk0 : (0 : Int) ≤ (k : Int) := Int.natCast_nonneg _
    have hkl : (k : Int) < (L.length : Int) := by omega
    have hl1 : (L.length : Int) ≤ 1000 := by have := Hl.out; omega
    have HKK := Lib.hid hk
    clear hda hlv hk h0
    go_enter Try.func22, Try.ntmps22
    go_wp2_with (first
      | (go_at_call 23; ((with_reducible refine HList.out.mono ?_); rintro x w1 ⟨v', rfl, hvo', hb1⟩; obtain ⟨xa, xc, hvv, hxl⟩ := hvo'.vl; subst hvv; have HX := Lib.hid hxl; clear hvo' hxl))
      | (go_at_call 14; ((with_reducible refine (HLen.out _ (by with_reducible assumption)).mono ?_); rintro x w2 ⟨rfl, rfl⟩))
      | (go_at_call 11; ((with_reducible refine (HNew.out _ (by with_reducible assumption)).mono ?_); rintro x w3 ⟨rfl, hb3, hbw3⟩))
      | (go_at_call 32; ((with_reducible refine (HDN.out _ (by with_reducible assumption)).mono ?_); rintro x w4 ⟨rfl, rfl⟩))
      | (go_at_call 13; ((with_reducible refine (HLive.out _ (by with_reducible assumption)).mono ?_); rintro x w5 ⟨rfl, hb5, hbw5⟩; have hdc := HD.out.below hbw5; have c1 := hdc.2.1; clear hdc))
      | fail)
    have HW5 := Lib.hid hbw5
    have HW15 := Lib.hid (bthen hb3 hb5)
    have HOf := Lib.hid vof_any
    clear hbw5 hb3 hb5 hbw3 hb1 c1 HD
    go_loopw [6] (fun i wr => ∃ k : Nat, i = .int .i64 k ∧ k ≤ L.length ∧ Below w1.heap.size w1 wr ∧ Below w.heap.size w wr) (fun i _ => L.length - (intOf i).toNat)
    case atStart => exact ⟨0, rfl, Nat.zero_le _, HW15.out, HW5.out⟩
    case round =>
      obtain ⟨j, rfl, hj, hb1r, hbwr⟩ := hrel
      by_cases hlt : j < L.length
      · obtain ⟨u, hu⟩ := at_some hlt
        obtain ⟨xb, xoff, rfl, hxa⟩ := HX.out.at2 hu
        obtain ⟨lb', loff', hle, hla⟩ := HL.out.at hu
        cases hle
        have hxr := hxa.below hb1r
        have hlr := hla.below hbwr
        have hji : (j : Int) < (L.length : Int) := by omega
        have hj0 : (0 : Int) ≤ (j : Int) := Int.natCast_nonneg _
        have HO := Lib.hid fun (W : World) => HOf.out u W (HOK.out u (List.mem_of_getElem? hu))
        have hns := dver_self u
        have hS : ∀ Y, Below wr.heap.size wr Y → (Y.cell? ⟨xb, xoff + j * 11, none⟩ = some (.int .u64 u.a) ∧ Y.cell? ⟨xb, xoff + j * 11 + 1, none⟩ = some (.bool u.d) ∧ Y.cell? ⟨xb, xoff + j * 11 + 2, none⟩ = some (.int .u8 u.r.k) ∧ Y.cell? ⟨xb, xoff + j * 11 + 3, none⟩ = some (.int .u8 u.r.s) ∧ Y.cell? ⟨xb, xoff + j * 11 + 4, none⟩ = some (.int .u8 u.r.u) ∧ Y.cell? ⟨xb, xoff + j * 11 + 5, none⟩ = some (.int .u8 u.r.p) ∧ Y.cell? ⟨xb, xoff + j * 11 + 6, none⟩ = some (.int .u8 u.r.m) ∧ Y.cell? ⟨xb, xoff + j * 11 + 7, none⟩ = some (.bool u.r.g) ∧ Y.cell? ⟨xb, xoff + j * 11 + 8, none⟩ = some (.int .u32 u.r.v) ∧ Y.cell? ⟨xb, xoff + j * 11 + 9, none⟩ = some (.int .u64 u.r.a) ∧ Y.cell? ⟨xb, xoff + j * 11 + 10, none⟩ = some (.string u.r.t)) ∧ (Y.cell? ⟨lb, loff + j * 11, none⟩ = some (.int .u64 u.a) ∧ Y.cell? ⟨lb, loff + j * 11 + 1, none⟩ = some (.bool u.d) ∧ Y.cell? ⟨lb, loff + j * 11 + 2, none⟩ = some (.int .i64 u.r.k) ∧ Y.cell? ⟨lb, loff + j * 11 + 3, none⟩ = some (.int .i64 u.r.s) ∧ Y.cell? ⟨lb, loff + j * 11 + 4, none⟩ = some (.int .i64 u.r.u) ∧ Y.cell? ⟨lb, loff + j * 11 + 5, none⟩ = some (.int .i64 u.r.p) ∧ Y.cell? ⟨lb, loff + j * 11 + 6, none⟩ = some (.int .i64 u.r.m) ∧ Y.cell? ⟨lb, loff + j * 11 + 7, none⟩ = some (.bool u.r.g) ∧ Y.cell? ⟨lb, loff + j * 11 + 8, none⟩ = some (.int .u64 u.r.v) ∧ Y.cell? ⟨lb, loff + j * 11 + 9, none⟩ = some (.int .u64 u.r.a) ∧ Y.cell? ⟨lb, loff + j * 11 + 10, none⟩ = some (.string u.r.t)) := fun Y hb => ⟨(hxr.below hb).elo, (hlr.below hb).elo⟩
        have hbx : Below wr.heap.size wr wr.drew := bdr0 wr
        obtain ⟨⟨c0, c1, c2, c3, c4, c5, c6, c7, c8, c9, c10⟩, ⟨d0, d1, d2, d3, d4, d5, d6, d7, d8, d9, d10⟩⟩ := hS wr.drew hbx
        have HS2 := Lib.hid hS
        have HB1R := Lib.hid hb1r
        have HBWR := Lib.hid hbwr
        clear hS hxa hla hxr hlr hb1r hbwr hu
        go_wp2_with fail
        go_region_held3 (fun w' => (w'.cell? ⟨xb, xoff + j * 11, none⟩ = some (.int .u64 u.a) ∧ w'.cell? ⟨xb, xoff + j * 11 + 1, none⟩ = some (.bool u.d) ∧ w'.cell? ⟨xb, xoff + j * 11 + 2, none⟩ = some (.int .u8 u.r.k) ∧ w'.cell? ⟨xb, xoff + j * 11 + 3, none⟩ = some (.int .u8 u.r.s) ∧ w'.cell? ⟨xb, xoff + j * 11 + 4, none⟩ = some (.int .u8 u.r.u) ∧ w'.cell? ⟨xb, xoff + j * 11 + 5, none⟩ = some (.int .u8 u.r.p) ∧ w'.cell? ⟨xb, xoff + j * 11 + 6, none⟩ = some (.int .u8 u.r.m) ∧ w'.cell? ⟨xb, xoff + j * 11 + 7, none⟩ = some (.bool u.r.g) ∧ w'.cell? ⟨xb, xoff + j * 11 + 8, none⟩ = some (.int .u32 u.r.v) ∧ w'.cell? ⟨xb, xoff + j * 11 + 9, none⟩ = some (.int .u64 u.r.a) ∧ w'.cell? ⟨xb, xoff + j * 11 + 10, none⟩ = some (.string u.r.t)) ∧ (w'.cell? ⟨lb, loff + j * 11, none⟩ = some (.int .u64 u.a) ∧ w'.cell? ⟨lb, loff + j * 11 + 1, none⟩ = some (.bool u.d) ∧ w'.cell? ⟨lb, loff + j * 11 + 2, none⟩ = some (.int .i64 u.r.k) ∧ w'.cell? ⟨lb, loff + j * 11 + 3, none⟩ = some (.int .i64 u.r.s) ∧ w'.cell? ⟨lb, loff + j * 11 + 4, none⟩ = some (.int .i64 u.r.u) ∧ w'.cell? ⟨lb, loff + j * 11 + 5, none⟩ = some (.int .i64 u.r.p) ∧ w'.cell? ⟨lb, loff + j * 11 + 6, none⟩ = some (.int .i64 u.r.m) ∧ w'.cell? ⟨lb, loff + j * 11 + 7, none⟩ = some (.bool u.r.g) ∧ w'.cell? ⟨lb, loff + j * 11 + 8, none⟩ = some (.int .u64 u.r.v) ∧ w'.cell? ⟨lb, loff + j * 11 + 9, none⟩ = some (.int .u64 u.r.a) ∧ w'.cell? ⟨lb, loff + j * 11 + 10, none⟩ = some (.string u.r.t)))
          (first | (refine ⟨⟨?_, ?_, ?_, ?_, ?_, ?_, ?_, ?_, ?_, ?_, ?_⟩, ⟨?_, ?_, ?_, ?_, ?_, ?_, ?_, ?_, ?_, ?_, ?_⟩⟩ <;> with_reducible assumption) | fail)
          (first
            | (go_at_call 18; ((with_reducible refine (HO.out _).mono ?_); rintro x W3 ⟨rfl, hb3⟩; have hbY := bthen hbx hb3; clear hb3; obtain ⟨⟨e0, e1, e2, e3, e4, e5, e6, e7, e8, e9, e10⟩, ⟨f0, f1, f2, f3, f4, f5, f6, f7, f8, f9, f10⟩⟩ := HS2.out _ hbY))
            | fail)
        all_goals
          have hbE1 := bthen HB1R.out hbY
          have hbE2 := bthen HBWR.out hbY
          go_wp2_with fail
          refine ⟨⟨j + 1, by go_num, by omega, hbE1, hbE2⟩, ?_⟩
          simp [intOf]
          omega
      · have hje : j = L.length := by omega
        subst hje
        go_wp2_with fail
        go_ret
        exact ⟨rfl, hbwr⟩
end Go.Proofs.Ytpbdgfgjlccapaa.cw
