/-
  The walks of layer 10: the document's bytes of a record.
-/
import Derived.Test.YtaekpejpcafnkaaRecE
import Derived.Test.YtaekpejpcafnkaaRecH
import Derived.Test.YtaekpejpcafnkaaMc
import Derived.Test.YtaekpejpcafnkaaWireG
namespace Go.Proofs.Ytaekpejpcafnkaa.rw
open Go.RowKit Go.Proofs.Ytaekpejpcafnkaa.ba Go.Proofs.Ytaekpejpcafnkaa.rp Go.Proofs.Ytaekpejpcafnkaa.dp Go.Proofs.Ytaekpejpcafnkaa.dw Go.Proofs.Ytaekpejpcafnkaa.wp Go.Proofs.Ytaekpejpcafnkaa.ww
set_option maxRecDepth 8000
set_option linter.unusedVariables false

/-- A field's letter. -/
def letF (x : Nat × Nat) : Int := if x = (0, 2) then 117 else if x = (0, 4) then 109 else if x = (0, 3) then 112 else if x = (0, 1) then 115 else if x = (1, 5) then 103 else if x = (2, 6) then 114 else if x = (3, 7) then 97 else 116
theorem let_ways (k : Int) (j : Nat) (x : Nat × Nat) (h : (usesK k)[j]? = some x) : x = (0, 2) ∨ x = (0, 4) ∨ x = (0, 3) ∨ x = (0, 1) ∨ x = (1, 5) ∨ x = (2, 6) ∨ x = (3, 7) ∨ x = (4, 8) := by
  have h1 := List.mem_of_getElem? h
  unfold usesK at h1
  repeat' split at h1
  all_goals simp at h1
  all_goals (rcases h1 with rfl | rfl | rfl | rfl) <;> simp
theorem uses_letters (k : Int) (h1 : 1 ≤ k) (h6 : k ≤ 6) : (usesS k).map (fun b => (b.toNat : Int)) = (usesK k).map letF := by
  have hkk : k = 1 ∨ k = 2 ∨ k = 3 ∨ k = 4 ∨ k = 5 ∨ k = 6 := by omega
  rcases hkk with rfl | rfl | rfl | rfl | rfl | rfl <;> simp [usesS, usesK, letF]
theorem uses_len (k : Int) : (usesK k).length ≤ 4 := by
  unfold usesK
  repeat' split
  all_goals simp
/-- The letters of a kind, as a text. -/
def Lets (k : Int) (U : ByteArray) : Prop := U.size = (usesK k).length ∧ ∀ j x, (usesK k)[j]? = some x → ∀ h : j < U.size, (U[j].toNat : Int) = letF x
theorem lets_of (k : Int) (h1 : 1 ≤ k) (h6 : k ≤ 6) : Lets k ⟨(usesS k).toArray⟩ := by
  have h := uses_letters k h1 h6
  have hl := congrArg List.length h
  simp only [List.length_map] at hl
  refine ⟨by show (usesS k).toArray.size = _; simpa using hl, fun j x hx hj => ?_⟩
  have hj' : j < (usesS k).length := by simpa [ByteArray.size] using hj
  have e : (⟨(usesS k).toArray⟩ : ByteArray)[j] = (usesS k)[j] := rfl
  rw [e]
  have h2 := congrArg (fun l => l[j]?) h
  simp only [List.getElem?_map, hx, List.getElem?_eq_getElem hj', Option.map_some, Option.some.injEq] at h2
  exact h2
theorem encJ_snoc {r : R} {j : Nat} {x : Nat × Nat} (h : (usesK r.k)[j]? = some x) : (encJ r j).length + (fbR r x).length = (encJ r (j + 1)).length ∧ encJ r j ++ fbR r x = encJ r (j + 1) := by
  rw [encJ_succ h]
  exact ⟨by simp, rfl⟩
set_option maxRecDepth 100000 in
set_option maxHeartbeats 20000000 in
theorem rrbytes_in (k s u p m : Int) (g : Bool) (v a : Int) (t : ByteArray) (w : World) (hr : R.ok ⟨k, s, u, p, m, g, v, a, t⟩) (h1 : 1 ≤ k) (h6 : k ≤ 6) (ht : t.size ≤ 60) :
    Calls Try.prog 16 #[.agg #[.int .i64 k, .int .i64 s, .int .i64 u, .int .i64 p, .int .i64 m, .bool g, .int .u64 v, .int .u64 a, .string t]] w fun x w' => Made w w' (encR ⟨k, s, u, p, m, g, v, a, t⟩) x := by
  obtain ⟨i0, hi, hz0, hz1, hz2⟩ := info_parts info5
  have hB1 := Blk.new w 25 #[.int .i64 k, .int .i64 s, .int .i64 u, .int .i64 p, .int .i64 m, .bool g, .int .u64 v, .int .u64 a, .string t]
  have hb0 := box_below w (.cells #[.int .i64 k, .int .i64 s, .int .i64 u, .int .i64 p, .int .i64 m, .bool g, .int .u64 v, .int .u64 a, .string t] 25)
  have hlt0 : w.heap.size < (w.alloc (.cells #[.int .i64 k, .int .i64 s, .int .i64 u, .int .i64 p, .int .i64 m, .bool g, .int .u64 v, .int .u64 a, .string t] 25)).heap.size := by simp
  have hLet := lets_of k h1 h6
  have hU := fun (W : World) => ruses_any k W h1 h6
  obtain ⟨U, hUe⟩ : ∃ U : ByteArray, U = ⟨(usesS k).toArray⟩ := ⟨_, rfl⟩
  rw [← hUe] at hU hLet
  have HU := Lib.hid hU
  have hls := hLet.1
  have hl4 := uses_len k
  have hU4 : U.size ≤ 4 := by omega
  have HLet := Lib.hid hLet
  obtain ⟨⟨k0, k1⟩, ⟨s0, s1⟩, ⟨u0, u1⟩, ⟨p0, p1⟩, ⟨m0, m1⟩, ⟨v0, v1⟩, ⟨a0, a1⟩, _⟩ := hr
  simp only at k0 k1 s0 s1 u0 u1 p0 p1 m0 m1 v0 v1 a0 a1
  have wk : IntKind.u8.wrap k = k := IntWalk.u8_in _ ⟨k0, k1⟩
  have HLE := Lib.hid fun j => encJ_le (⟨k, s, u, p, m, g, v, a, t⟩ : R) ht j
  have HSN := Lib.hid fun (j : Nat) (x : Nat × Nat) (h : (usesK k)[j]? = some x) => encJ_snoc (r := ⟨k, s, u, p, m, g, v, a, t⟩) h
  have HFin : Hid (encJ ⟨k, s, u, p, m, g, v, a, t⟩ U.size = encR ⟨k, s, u, p, m, g, v, a, t⟩) := by show _ = _; rw [hls]; rfl
  have HV := Lib.hid fun (W : World) => rsma_any v.toNat W (by omega)
  have HA := Lib.hid fun (W : World) => rsma_any a.toNat W (by omega)
  have HT := Lib.hid fun (W : World) => rsma_any t.size W (by omega)
  rw [show ((v.toNat : Nat) : Int) = v from by omega] at HV
  rw [show ((a.toNat : Nat) : Int) = a from by omega] at HA
  have hl10 := fun n => smaL_len n
  have HL10 := Lib.hid hl10
  have hst := strL_len t
  have HST := Lib.hid hst
  clear hU hUe hLet hls hl4 hl10 hst
  have w8k : k % 256 = k := by omega
  go_enter Try.func16, Try.ntmps16
  go_wp2_with fail
  have hE : Hid ((w.alloc (.cells #[.int .i64 k, .int .i64 s, .int .i64 u, .int .i64 p, .int .i64 m, .bool g, .int .u64 v, .int .u64 a, .string t] 25)).heap.size = w.heap.size + 1) := by show _ = _; simp
  generalize hW0 : (w.alloc (.cells #[.int .i64 k, .int .i64 s, .int .i64 u, .int .i64 p, .int .i64 m, .bool g, .int .u64 v, .int .u64 a, .string t] 25)) = W0 at *
  clear hW0
  go_wp2_with ((with_reducible refine (HU.out _).mono ?_); rintro x W1 ⟨rfl, hb1⟩)
  have hown0 : W1.ownsRow W0.heap.size 5 1 (.slice (some ⟨w.heap.size + 1, 0, none⟩) 1 1) 1 [.int .u8 k] := by
    have := own_below (own_new W0 W0.heap.size 5 [.int .u8 k] 1 rfl (Nat.le_refl _) (by unfold maxLen; omega)) hb1
    rw [hE.out] at this ⊢
    exact this
  have hbel1 := bthen (box_below W0 _) hb1
  have HB1 := Lib.hid hB1
  have HO0 := Lib.hid hown0
  clear hown0 hB1 hb1
  go_loopw [3, 5] (fun o i wr => ∃ (j : Nat), j ≤ U.size ∧ i = .int .i64 j ∧ wr.ownsRow W0.heap.size 5 1 o (encJ ⟨k, s, u, p, m, g, v, a, t⟩ j).length ((encJ ⟨k, s, u, p, m, g, v, a, t⟩ j).map (Value.int .u8)) ∧ Below W0.heap.size W0 wr) (fun _ i _ => U.size - (intOf i).toNat)
  case atStart => exact ⟨0, Nat.zero_le _, rfl, HO0.out, hbel1⟩
  case round =>
    obtain ⟨j, hj, rfl, hown, hbel⟩ := hrel
    clear hbel1 HO0
    have hz := hbel.size
    obtain ⟨av, cv, hv, hac, hcm⟩ := own_form hown
    subst hv
    by_cases hlt : j < U.size
    · obtain ⟨x, hx⟩ := some_at (usesK k) (i := j) (by have := HLet.out.1; omega)
      have hB2 := HB1.out.below hbel
      have c0 : wr.cell? ⟨w.heap.size, 0, none⟩ = some (.int .i64 k) := hB2.cell 0
      have c1 : wr.cell? ⟨w.heap.size, 1, none⟩ = some (.int .i64 s) := hB2.cell 1
      have c2 : wr.cell? ⟨w.heap.size, 2, none⟩ = some (.int .i64 u) := hB2.cell 2
      have c3 : wr.cell? ⟨w.heap.size, 3, none⟩ = some (.int .i64 p) := hB2.cell 3
      have c4 : wr.cell? ⟨w.heap.size, 4, none⟩ = some (.int .i64 m) := hB2.cell 4
      have c5 : wr.cell? ⟨w.heap.size, 5, none⟩ = some (.bool g) := hB2.cell 5
      have c6 : wr.cell? ⟨w.heap.size, 6, none⟩ = some (.int .u64 v) := hB2.cell 6
      have c7 : wr.cell? ⟨w.heap.size, 7, none⟩ = some (.int .u64 a) := hB2.cell 7
      have c8 : wr.cell? ⟨w.heap.size, 8, none⟩ = some (.string t) := hB2.cell 8
      have HB2 := Lib.hid hB2
      have hlen := HLE.out j
      generalize hn : (encJ ⟨k, s, u, p, m, g, v, a, t⟩ j).length = n at *
      have HN := Lib.hid hn
      have HO := Lib.hid hown
      clear hn hown hB2
      rcases let_ways k j x hx with rfl | rfl | rfl | rfl | rfl | rfl | rfl | rfl
      · have hc : (U[j].toNat : Int) = 117 := (HLet.out.2 j _ hx hlt).trans (by decide)
        have w8 : IntKind.u8.wrap u = u := IntWalk.u8_in _ ⟨u0, u1⟩
        have w8m : u % 256 = u := by omega
        have HX := Lib.hid hx
        have HA1 := Lib.hid (own_form HO.out)
        clear hx HA1
        go_wp2_with (at_builtin; go_loud ((refine wpList_append_one rfl _ _ 22 rfl W0.heap.size 5 i0 (.int .u8 0) 1 Try.underlying22 hi hz0 hz1 hz2 rfl (.slice av n cv) n _ rfl HO.out (.int .u8 u) rfl 5 rfl (by omega) (by omega) (by omega) ?_; intro v3 W5 hown5 hg5; have HB5 := Lib.hid (below_append hbel hz HO.out (Nat.le_refl _) hg5); have HO5 := Lib.hid hown5; clear hown5 hg5)))
        go_roundw
        case rel =>
          refine ⟨j + 1, by omega, by go_num, ?_, HB5.out⟩
          rw [encJ_succ (r := ⟨k, s, u, p, m, g, v, a, t⟩) HX.out, List.length_append, List.map_append, HN.out]
          exact HO5.out
        case measure => simp [intOf]; omega
      · have hc : (U[j].toNat : Int) = 109 := (HLet.out.2 j _ hx hlt).trans (by decide)
        have w8 : IntKind.u8.wrap m = m := IntWalk.u8_in _ ⟨m0, m1⟩
        have w8m : m % 256 = m := by omega
        have HX := Lib.hid hx
        have HA1 := Lib.hid (own_form HO.out)
        clear hx HA1
        go_wp2_with (at_builtin; go_loud ((refine wpList_append_one rfl _ _ 22 rfl W0.heap.size 5 i0 (.int .u8 0) 1 Try.underlying22 hi hz0 hz1 hz2 rfl (.slice av n cv) n _ rfl HO.out (.int .u8 m) rfl 5 rfl (by omega) (by omega) (by omega) ?_; intro v3 W5 hown5 hg5; have HB5 := Lib.hid (below_append hbel hz HO.out (Nat.le_refl _) hg5); have HO5 := Lib.hid hown5; clear hown5 hg5)))
        go_roundw
        case rel =>
          refine ⟨j + 1, by omega, by go_num, ?_, HB5.out⟩
          rw [encJ_succ (r := ⟨k, s, u, p, m, g, v, a, t⟩) HX.out, List.length_append, List.map_append, HN.out]
          exact HO5.out
        case measure => simp [intOf]; omega
      · have hc : (U[j].toNat : Int) = 112 := (HLet.out.2 j _ hx hlt).trans (by decide)
        have w8 : IntKind.u8.wrap p = p := IntWalk.u8_in _ ⟨p0, p1⟩
        have w8m : p % 256 = p := by omega
        have HX := Lib.hid hx
        have HA1 := Lib.hid (own_form HO.out)
        clear hx HA1
        go_wp2_with (at_builtin; go_loud ((refine wpList_append_one rfl _ _ 22 rfl W0.heap.size 5 i0 (.int .u8 0) 1 Try.underlying22 hi hz0 hz1 hz2 rfl (.slice av n cv) n _ rfl HO.out (.int .u8 p) rfl 5 rfl (by omega) (by omega) (by omega) ?_; intro v3 W5 hown5 hg5; have HB5 := Lib.hid (below_append hbel hz HO.out (Nat.le_refl _) hg5); have HO5 := Lib.hid hown5; clear hown5 hg5)))
        go_roundw
        case rel =>
          refine ⟨j + 1, by omega, by go_num, ?_, HB5.out⟩
          rw [encJ_succ (r := ⟨k, s, u, p, m, g, v, a, t⟩) HX.out, List.length_append, List.map_append, HN.out]
          exact HO5.out
        case measure => simp [intOf]; omega
      · have hc : (U[j].toNat : Int) = 115 := (HLet.out.2 j _ hx hlt).trans (by decide)
        have w8 : IntKind.u8.wrap s = s := IntWalk.u8_in _ ⟨s0, s1⟩
        have w8m : s % 256 = s := by omega
        have HX := Lib.hid hx
        have HA1 := Lib.hid (own_form HO.out)
        clear hx HA1
        go_wp2_with (at_builtin; go_loud ((refine wpList_append_one rfl _ _ 22 rfl W0.heap.size 5 i0 (.int .u8 0) 1 Try.underlying22 hi hz0 hz1 hz2 rfl (.slice av n cv) n _ rfl HO.out (.int .u8 s) rfl 5 rfl (by omega) (by omega) (by omega) ?_; intro v3 W5 hown5 hg5; have HB5 := Lib.hid (below_append hbel hz HO.out (Nat.le_refl _) hg5); have HO5 := Lib.hid hown5; clear hown5 hg5)))
        go_roundw
        case rel =>
          refine ⟨j + 1, by omega, by go_num, ?_, HB5.out⟩
          rw [encJ_succ (r := ⟨k, s, u, p, m, g, v, a, t⟩) HX.out, List.length_append, List.map_append, HN.out]
          exact HO5.out
        case measure => simp [intOf]; omega
      · have hc : (U[j].toNat : Int) = 103 := (HLet.out.2 j _ hx hlt).trans (by decide)
        have HX := Lib.hid hx
        clear hx
        cases g
        all_goals
          go_wp2_with (at_builtin; go_loud ((refine wpList_append_one rfl _ _ 22 rfl W0.heap.size 5 i0 (.int .u8 0) 1 Try.underlying22 hi hz0 hz1 hz2 rfl (.slice av n cv) n _ rfl HO.out _ rfl 5 rfl (by omega) (by omega) (by omega) ?_; intro v3 W5 hown5 hg5; have HB5 := Lib.hid (below_append hbel hz HO.out (Nat.le_refl _) hg5); have HO5 := Lib.hid hown5; clear hown5 hg5)))
          go_roundw
          case rel =>
            refine ⟨j + 1, by omega, by go_num, ?_, HB5.out⟩
            rw [encJ_succ HX.out, List.length_append, List.map_append, HN.out]
            exact HO5.out
          case measure => simp [intOf]; omega
      · have hc : (U[j].toNat : Int) = 114 := (HLet.out.2 j _ hx hlt).trans (by decide)
        have HX := Lib.hid hx
        have hl1 := HL10.out v.toNat
        clear hx
        go_wp2_with
          (first
            | (go_at_call 47; ((with_reducible refine (HV.out _).mono ?_); rintro x W4 ⟨a4, c4', rfl, ho4, hb4⟩; have HB4 := Lib.hid hb4; have HL4 := Lib.hid (Lst.own ho4); have hz4 := hb4.size; have HO4 := Lib.hid (own_below HO.out hb4); clear ho4 hb4))
            | (at_builtin; go_loud ((refine wpList_append_lst_at rfl _ _ 22 rfl W0.heap.size 5 .u8 i0 (.int .u8 0) 1 Try.underlying22 hi hz0 hz1 hz2 rfl (.slice av n cv) n _ rfl HO4.out a4 (smaL v.toNat).length c4' (smaL v.toNat) rfl rfl HL4.out (by omega) (by omega) (by omega) ?_; intro v3 W5 hown5 hg5 _; have HB5 := Lib.hid (below_grown (bthen hbel HB4.out) (by omega) HO4.out (Nat.le_refl _) hg5); have HO5 := Lib.hid hown5; clear hown5 hg5)))
            | fail)
        go_roundw
        case rel =>
          refine ⟨j + 1, by omega, by go_num, ?_, HB5.out⟩
          rw [encJ_succ (r := ⟨k, s, u, p, m, g, v, a, t⟩) HX.out, List.length_append, HN.out]
          exact HO5.out
        case measure => simp [intOf]; omega
      · have hc : (U[j].toNat : Int) = 97 := (HLet.out.2 j _ hx hlt).trans (by decide)
        have HX := Lib.hid hx
        have hl1 := HL10.out a.toNat
        clear hx
        go_wp2_with
          (first
            | (go_at_call 47; ((with_reducible refine (HA.out _).mono ?_); rintro x W4 ⟨a4, c4', rfl, ho4, hb4⟩; have HB4 := Lib.hid hb4; have HL4 := Lib.hid (Lst.own ho4); have hz4 := hb4.size; have HO4 := Lib.hid (own_below HO.out hb4); clear ho4 hb4))
            | (at_builtin; go_loud ((refine wpList_append_lst_at rfl _ _ 22 rfl W0.heap.size 5 .u8 i0 (.int .u8 0) 1 Try.underlying22 hi hz0 hz1 hz2 rfl (.slice av n cv) n _ rfl HO4.out a4 (smaL a.toNat).length c4' (smaL a.toNat) rfl rfl HL4.out (by omega) (by omega) (by omega) ?_; intro v3 W5 hown5 hg5 _; have HB5 := Lib.hid (below_grown (bthen hbel HB4.out) (by omega) HO4.out (Nat.le_refl _) hg5); have HO5 := Lib.hid hown5; clear hown5 hg5)))
            | fail)
        go_roundw
        case rel =>
          refine ⟨j + 1, by omega, by go_num, ?_, HB5.out⟩
          rw [encJ_succ (r := ⟨k, s, u, p, m, g, v, a, t⟩) HX.out, List.length_append, HN.out]
          exact HO5.out
        case measure => simp [intOf]; omega
      · have hc : (U[j].toNat : Int) = 116 := (HLet.out.2 j _ hx hlt).trans (by decide)
        have HX := Lib.hid hx
        have hl1 := HL10.out t.size
        have hwr : IntKind.u64.wrap (t.size : Int) = (t.size : Int) := IntWalk.u64_in _ ⟨by omega, by omega⟩
        have hcv : ∀ W, (convert 9 22 (.string t)).run Try.prog W = .ok (.slice (some ⟨W.heap.size, 0, none⟩) t.size (grownCap W t.size 0 5)) (Lib.bytesWorld W 5 t) := fun W => Lib.run_convert_string_bytes W 9 22 5 t Try.underlying9 Try.underlying22 Try.underlying5
        have tok1 : True := trivial
        have tok2 : True := trivial
        clear hx
        go_wp2_with
          (first
            | (go_at_call 47; ((with_reducible refine (HT.out _).mono ?_); rintro x W4 ⟨a4, c4', rfl, ho4, hb4⟩; have HB4 := Lib.hid hb4; have HL4 := Lib.hid (Lst.own ho4); have hz4 := hb4.size; have HO4 := Lib.hid (own_below HO.out hb4); have e8 : W4.cell? ⟨w.heap.size, 8, none⟩ = some (.string t) := (HB2.out.below hb4).cell 8; clear ho4 hb4))
            | (at_builtin; have _t := tok1; go_loud ((refine wpList_append_lst_at rfl _ _ 22 rfl W0.heap.size 5 .u8 i0 (.int .u8 0) 1 Try.underlying22 hi hz0 hz1 hz2 rfl (.slice av n cv) n _ rfl HO4.out a4 (smaL t.size).length c4' (smaL t.size) rfl rfl HL4.out (by omega) (by omega) (by omega) ?_; intro v3 W5 hown5 hg5 _; have HB5 := Lib.hid (below_grown (bthen hbel HB4.out) (by omega) HO4.out (Nat.le_refl _) hg5); have hz5 := hg5.size; have e9 : W5.cell? ⟨w.heap.size, 8, none⟩ = some (.string t) := (HB1.out.below HB5.out).cell 8; obtain ⟨av5, cv5, hv5, _, _⟩ := own_form hown5; subst hv5; have HO5 := Lib.hid (own_below hown5 (bw_below W5 5 t)); clear hown5 hg5 tok1; have HB6 := Lib.hid (bthen HB5.out (bw_below W5 5 t)); have hz6 := (bw_below W5 5 t).size)))
            | (at_builtin; have _t := tok2; go_loud ((refine wpList_append_lst_at rfl _ _ 22 rfl W0.heap.size 5 .u8 i0 (.int .u8 0) 1 Try.underlying22 hi hz0 hz1 hz2 rfl (.slice av5 (n + (smaL t.size).length) cv5) (n + (smaL t.size).length) _ rfl HO5.out (some ⟨W5.heap.size, 0, none⟩) t.size (grownCap W5 t.size 0 5) (strL t) rfl HST.out (bw_lst W5 5 t) (by omega) (by omega) (by omega) ?_; intro v7 W7 hown7 hg7 _; have HB7 := Lib.hid (below_grown HB6.out (by omega) HO5.out (Nat.le_refl _) hg7); have HO7 := Lib.hid hown7; clear hown7 hg7 tok2)))
            | fail)
        go_roundw
        case rel =>
          refine ⟨j + 1, by omega, by go_num, ?_, HB7.out⟩
          rw [encJ_succ (r := ⟨k, s, u, p, m, g, v, a, t⟩) HX.out, List.length_append, HN.out]
          have e : fbR ⟨k, s, u, p, m, g, v, a, t⟩ (4, 8) = smaL t.size ++ strL t := rfl
          rw [e, List.length_append, HST.out, ← Nat.add_assoc, ← List.append_assoc]
          exact HO7.out
        case measure => simp [intOf]; omega
    · have hk' : j = U.size := by omega
      subst hk'
      have HO := Lib.hid hown
      clear hown
      go_wp2_with fail
      go_ret
      have e := HFin.out
      rw [e] at HO ⊢
      exact ⟨av, cv, rfl, Lst.own HO.out, bthen hb0 hbel⟩
/-- The document's bytes of a right record. -/
theorem rrbytes_any (r : R) (w : World) (hr : r.ok) (h1 : 1 ≤ r.k) (h6 : r.k ≤ 6) (ht : r.t.size ≤ 60) :
    Calls Try.prog 16 #[.agg #[.int .i64 r.k, .int .i64 r.s, .int .i64 r.u, .int .i64 r.p, .int .i64 r.m, .bool r.g, .int .u64 r.v, .int .u64 r.a, .string r.t]] w fun x w' => Made w w' (encR r) x := rrbytes_in r.k r.s r.u r.p r.m r.g r.v r.a r.t w hr h1 h6 ht
end Go.Proofs.Ytaekpejpcafnkaa.rw

