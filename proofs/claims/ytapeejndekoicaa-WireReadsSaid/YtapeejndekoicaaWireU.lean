/-
  The walk of the law WireSticks.
-/
import Derived.Test.YtapeejndekoicaaWireT
import Derived.Deep.RegionHeld3
import Derived.Deep.DrawnRows
import Derived.Deep.DeepCutAuto
namespace Go.Proofs.Ytapeejndekoicaa.ww
open Go.RowKit Go.Proofs.Ytapeejndekoicaa.ba Go.Proofs.Ytapeejndekoicaa.dp Go.Proofs.Ytapeejndekoicaa.wp Go.Proofs.Ytapeejndekoicaa.dw
set_option linter.unusedVariables false
attribute [local go_sem ↓] Go.wp_at_zero Go.wp_at_succ

theorem RawF.below {w w' : World} {a : Option Addr} {len : Nat} (h : RawF w a len) (hb : Below w.heap.size w w') : RawF w' a len := by
  rcases h with h | ⟨b, off, rfl, h⟩
  · exact .inl h
  · refine .inr ⟨b, off, rfl, fun i hi => ?_⟩
    obtain ⟨k, n, s, h1, h2, h3, h4, h5, c0, c1, c2⟩ := h i hi
    exact ⟨k, n, s, h1, h2, h3, h4, h5, bsome hb c0 (World.block_lt_of_cell? _ _ c0), bsome hb c1 (World.block_lt_of_cell? _ _ c1), bsome hb c2 (World.block_lt_of_cell? _ _ c2)⟩
theorem bdrx {B : Nat} {w w' : World} (h : Below B w w') : Below B w w'.drew := ⟨h.os, h.tape, h.output, h.size, h.block⟩
/-- Right fields in memory, as a value. -/
def FV (m : Nat) (w : World) (v : Value) : Prop := ∃ (F : List Fld) (a : Option Addr) (c : Nat), v = .slice a F.length c ∧ FL w a F ∧ F.length ≤ m ∧ ∀ f ∈ F, good f
def RightV (m : Nat) (w0 w' : World) (x : Ending) : Prop := ∃ v, x = .returned v ∧ FV m w' v ∧ Below w0.heap.size w0 w'
theorem right_v (a : Option Addr) (len cap m : Nat) (w0 w : World) (hb : Below w0.heap.size w0 w) (hlc : len ≤ cap) (hcm : cap ≤ 9223372036854775807) (hm : m ≤ 1000) (hR : RawF w0 a len) :
    Calls Try.prog 9 #[.slice a len cap, .int .i64 m] w fun x w' => RightV m w0 w' x :=
  (right_any a len cap m w hlc hcm hm (hR.below hb)).mono fun x w' ⟨F, a', c', h1, h2, h3, h4, h5⟩ => ⟨_, h1, ⟨F, a', c', rfl, h2, h3, h4⟩, bthen hb h5⟩
theorem WRd.b {w w1 : World} {B g1 g2 rb : Nat} {s : List Int × Int} {R : Int} {l : List Int} {e : Int} (h : WRd w B w1 g1 s R g2 rb l e) : Below w.heap.size w w1 := h.2.2.2.2.1
theorem WRd.r {w w1 : World} {B g1 g2 rb : Nat} {s : List Int × Int} {R : Int} {l : List Int} {e : Int} (h : WRd w B w1 g1 s R g2 rb l e) : RdAt B w1 g2 rb l e := h.2.2.2.2.2.1
theorem tk_len (l : List Int) : (tkF 0 (numF 0 l) l 0).2.1.length ≤ l.length := by
  unfold tkF
  rw [if_pos rfl]
  simp only [List.length_drop]
  omega

set_option maxRecDepth 100000 in
set_option maxHeartbeats 8000000 in
theorem wireSticks_any (n : Int) (ab a : Option Addr) (lb cb len cap : Nat) (Zb : Nat → Int) (w : World) (hn0 : -9223372036854775808 ≤ n) (hn1 : n ≤ 9223372036854775807) (hlb : lb ≤ cb) (hcb : cb ≤ maxLen) (hIb : Ints .u8 w ab lb Zb) (hZb : ∀ i, i < lb → 0 ≤ Zb i ∧ Zb i ≤ 255) (hlc : len ≤ cap) (hcm : cap ≤ 9223372036854775807) (hR : RawF w a len) :
    Calls Try.prog 7 #[.int .i64 n, .slice ab lb cb, .slice a len cap] w fun x w' => x = .returned (.bool true) ∧ Below w.heap.size w w' := by
  unfold maxLen at hcb
  obtain ⟨m, hm1, hm2, hm3⟩ : ∃ m : Nat, m ≤ 100 ∧ m ≤ lb ∧ Hid (m = if (lb : Int) ≤ 100 then lb else 100) := by
    by_cases h : (lb : Int) ≤ 100
    · exact ⟨lb, by omega, Nat.le_refl _, by show _ = _; rw [if_pos h]⟩
    · exact ⟨100, Nat.le_refl _, by omega, by show _ = _; rw [if_neg h]⟩
  have hLb := Lst.of_ints (Ints.shorter hIb hm2)
  have hlenb := listOf_length Zb m
  have hBy : Bytes (listOf Zb m) := fun v hv => by
    simp [listOf] at hv
    obtain ⟨i, hi, rfl⟩ := hv
    exact hZb i (by omega)
  have hna : ab = none → listOf Zb m = [] := fun h => by
    rcases hIb with h0 | ⟨b, off, h0, _⟩
    · exact List.eq_nil_of_length_eq_zero (by rw [hlenb]; omega)
    · rw [h] at h0; cases h0
  have HRight := Lib.hid fun (W : World) (h : Below w.heap.size w W) => right_v a len cap 10 w W h hlc hcm (by decide) hR
  rw [show ((10 : Nat) : Int) = 10 from rfl] at HRight
  have HNR := Lib.hid fun (W : World) (h : Below w.heap.size w W) => newr_any ab m cb (listOf Zb m) W hlenb (by omega) (hLb.below h) hna hBy
  clear hR hIb hZb hLb hna hBy
  obtain ⟨bl, hbl⟩ : ∃ bl, bl = listOf Zb m := ⟨_, rfl⟩
  rw [← hbl] at HNR hlenb
  have Hlb := Lib.hid hlenb
  clear hbl hlenb
  have hw0 : Below w.heap.size w w := Below.refl _ _
  go_enter Try.func7, Try.ntmps7
  go_upto_region 1 with fail
  go_cut [1, 2] (fun x y wx => x = .slice ab m cb ∧ FV 10 wx y ∧ Below w.heap.size w wx)
  case first =>
    by_cases h : (lb : Int) ≤ 100
    · have e : m = lb := by rw [hm3.out, if_pos h]
      subst e
      have hz1 : (0 : Int) ≤ (m : Int) := Int.natCast_nonneg _
      have hz2 : (m : Int) ≤ (cb : Int) := by omega
      have hmin : ∀ W, (Builtin.min_ #[3, 3] 3 #[.int .i64 (m : Int), .int .i64 100]).run Try.prog W = .ok (.int .i64 (m : Int)) W := fun W => by rw [run_min_int2, if_neg (by omega)]
      go_region_held3 (fun w' => Below w.heap.size w w') (first | assumption | exact bdrx hw0)
        (first
          | (go_at_call 9; ((with_reducible refine (HRight.out _ (by first | assumption | exact bdrx hw0)).mono ?_); rintro x W1 ⟨v1, rfl, hV1, hbA⟩))
          | fail)
      all_goals
        go_wp2_with fail
        go_meet
        exact ⟨rfl, hV1, hbA⟩
    · have e : m = 100 := by rw [hm3.out, if_neg h]
      subst e
      have h' : (100 : Int) < (lb : Int) := by omega
      have h2' : (100 : Int) ≤ (cb : Int) := by omega
      clear h
      go_region_held3 (fun w' => Below w.heap.size w w') (first | assumption | exact bdrx hw0)
        (first
          | (go_at_call 9; ((with_reducible refine (HRight.out _ (by first | assumption | exact bdrx hw0)).mono ?_); rintro x W1 ⟨v1, rfl, hV1, hbA⟩))
          | fail)
      all_goals
        go_wp2_with fail
        go_meet
        exact ⟨rfl, hV1, hbA⟩
  case rest =>
    obtain ⟨rfl, hFV, hbel⟩ := hcut
    obtain ⟨F, aF, cF, hv, hF, hF10, hgF⟩ := hFV
    subst hv
    have hn9 : n < 0 ∨ 65535 < n ∨ (0 ≤ n ∧ n ≤ 65535) := by omega
    obtain ⟨s0, hs0, hsl, Hs0⟩ : ∃ s0 : List Int × Int, (∀ W1, KW wc W1 wc.heap.size ([], 0) 5000 → Calls Try.prog 22 #[.pointer (some ⟨wc.heap.size, 0, none⟩), .int .i64 n] W1 fun x w' => x = .returned (.pointer (some ⟨wc.heap.size, 0, none⟩)) ∧ KW wc w' wc.heap.size s0 5000) ∧ s0.1.length ≤ 2 ∧ Hid ((0 ≤ n ∧ n ≤ 65535 ∧ s0.2 = 0 ∧ s0.1.length = 2) ∨ ((n < 0 ∨ 65535 < n) ∧ s0 = ([], 5))) := by
      by_cases hin : 0 ≤ n ∧ n ≤ 65535
      · obtain ⟨N, rfl⟩ := Int.eq_ofNat_of_zero_le hin.1
        refine ⟨wput 5000 (beB N 2) ([], 0), fun W1 hK => hK.call fun q hq => short_any wc.heap.size q [] 0 5000 N W1 hq (by decide) (by decide) (by decide) (by omega), ?_, .inl ⟨hin.1, hin.2, ?_, ?_⟩⟩
        · rw [wput_fits (by rw [beB_len]; decide), List.nil_append, beB_len]; exact Nat.le_refl _
        · rw [wput_fits (by rw [beB_len]; decide)]
        · rw [wput_fits (by rw [beB_len]; decide), List.nil_append, beB_len]
      · exact ⟨([], 5), fun W1 hK => hK.call fun q hq => short_out wc.heap.size q [] 0 5000 n W1 hq (by decide) (by decide) (by decide) (by omega), by decide, .inr ⟨by omega, rfl⟩⟩
    have HS := Lib.hid hs0
    have HNum := Lib.hid fun (W W2 : World) (g2 : Nat) (h : KR W W2 g2 bl 0) => (rnumber_any g2 0 bl 0 W2 h.2.2).mono fun x w' hx => (⟨⟨_, hx.1⟩, h.done hx.2⟩ : (∃ v, x = .returned v) ∧ KR W w' g2 (tkF 0 (numF 0 bl) bl 0).2.1 (tkF 0 (numF 0 bl) bl 0).2.2)
    rw [show (((0 : Nat)) : Int) = 0 from rfl] at HNum
    have hll := tk_len bl
    rw [Hlb.out] at hll
    obtain ⟨l2, e2, hle⟩ : ∃ l2 e2, (l2, e2) = (tkF 0 (numF 0 bl) bl 0).2 := ⟨_, _, rfl⟩
    rw [← hle] at HNum hll
    simp only at HNum hll
    clear hs0 hle hn9
    go_wp2_with (first
      | (go_at_call 10; ((with_reducible refine (new_own 5000 5000 (by decide) _).mono ?_); rintro x W2 ⟨rfl, hK2⟩))
      | (go_at_call 22; ((with_reducible refine (HS.out _ hK2).mono ?_); rintro x W3 ⟨rfl, hK3⟩; have hbK3 := bthen hbel hK3.2.1))
      | (go_at_call 16; ((with_reducible refine (HNR.out _ hbK3).mono ?_); rintro x W4 ⟨g2, rfl, hR4⟩))
      | (go_at_call 23; ((with_reducible refine (HNum.out _ _ _ hR4).mono ?_); rintro x W5 ⟨⟨v5, rfl⟩, hR5⟩; have hRr := hR5.2.2))
      | (go_at_call 20; ((with_reducible refine (err_any g2 l2 e2 _ hRr).mono ?_); rintro x W6 ⟨rfl, rfl⟩))
      | (go_at_call 19; ((with_reducible refine (left_any g2 l2 e2 _ hRr).mono ?_); rintro x W7 ⟨rfl, rfl⟩)))
    obtain ⟨rb, hW0⟩ := WRd.make hK3 hR5
    obtain ⟨g1, hg1⟩ : ∃ g, g = wc.heap.size := ⟨_, rfl⟩
    rw [← hg1] at hW0 ⊢
    obtain ⟨B, hB⟩ : ∃ B, B = W3.heap.size := ⟨_, rfl⟩
    rw [← hB] at hW0
    have hlen : ∀ k, (wfold 5000 (F.take k) s0).1.length ≤ 4200 := fun k => by
      have h1 := wfold_len 5000 (F.take k) s0 (fun f hf => hgF f (List.mem_of_mem_take hf))
      have h2 : (F.take k).length ≤ 10 := by rw [List.length_take]; omega
      omega
    have HLN := Lib.hid hlen
    clear hg1 hB hlen hK2 hK3 hR4 hR5 hRr hbK3 HNum HNR HRight HS hsl
    by_cases he : e2 = 0
    · subst he
      go_loopw [11] (fun i wr => ∃ j : Nat, j ≤ F.length ∧ i = .int .i64 j ∧ WRd wc B wr g1 (wfold 5000 (F.take j) s0) 5000 g2 rb l2 0) (fun i _ => F.length - (intOf i).toNat)
      case atStart => exact ⟨0, Nat.zero_le _, rfl, hW0⟩
      case round =>
        clear hW0
        obtain ⟨j, hj, rfl, hWR⟩ := hrel
        by_cases hlt : j < F.length
        · obtain ⟨f, hf⟩ := some_at F hlt
          have hgf := hgF f (List.mem_of_getElem? hf)
          have hs := Lib.hid (wfold_take 5000 F j f s0 hf)
          rcases hF with h0 | ⟨b, off, rfl, hc⟩
          · subst h0; simp at hlt
          have Hat := Lib.hid fun (W : World) (h : Below wc.heap.size wc W) => fl_at hc hf h
          obtain ⟨d0, d1, d2⟩ := Hat.out _ hWR.b
          have hltI : (j : Int) < (F.length : Int) := by omega
          have hj0 : (0 : Int) ≤ (j : Int) := Int.natCast_nonneg _
          have hl0 := HLN.out j
          obtain ⟨st, hst⟩ : ∃ st, st = wfold 5000 (F.take j) s0 := ⟨_, rfl⟩
          rw [← hst] at hWR hs hl0
          have HC := Lib.hid (hWR.put (s' := wput 5000 (fb f) st) fun q hq => put_any g1 q st.1 st.2 5000 f wr hq (by omega) (by decide) (by decide) hgf)
          clear hc hf hst hWR hl0
          go_wp2_with (go_at_call 11; ((with_reducible refine HC.out.mono ?_); rintro x W8 ⟨rfl, hW8⟩))
          go_roundw
          case rel => exact ⟨j + 1, by omega, by go_num, by rw [hs.out]; exact hW8⟩
          case measure => simp [intOf]; omega
        · have hjn : j = F.length := by omega
          rw [hjn, List.take_length] at hWR
          have hgeI : (F.length : Int) ≤ (j : Int) := by omega
          clear hjn hj
          rcases Hs0.out with ⟨n0, n1, k2, k3⟩ | ⟨hno, rfl⟩
          · obtain ⟨sl, se⟩ := s0
            simp only at k2 k3
            subst k2
            have hfit : wfold 5000 F (sl, 0) = (sl ++ allB F, 0) := wfold_fits 5000 F sl (by have := allB_len F hgF; omega)
            rw [hfit] at hWR
            have hlenc : 2 ≤ (sl ++ allB F).length := by rw [List.length_append]; omega
            have hlenI : (2 : Int) ≤ ((sl ++ allB F).length : Int) := by omega
            have HB := bytes_own hWR.kw (by have := allB_len F hgF; simp only [List.length_append]; omega)
            simp only [if_true] at HB
            generalize (sl ++ allB F) = sb at *
            have HBH := Lib.hid HB
            have hb1 := hWR.b
            have n2 : n < 65536 := by omega
            clear HB hfit k3 hWR Hs0
            go_wp2_with (first
              | (go_at_call 12; ((with_reducible refine HBH.out.mono ?_); rintro x W14 ⟨a14, c14, rfl, _, _, _, _, hb14⟩; replace hb1 := bthen hb1 hb14))
              | (go_at_call 14; ((with_reducible refine (known_any _).mono ?_); rintro x W15 ⟨rfl, hb15⟩; replace hb1 := bthen hb1 hb15)))
            go_ret
            exact ⟨ret_bool (by simp), bthen hbel hb1⟩
          · rw [wfold_bad _ _ _ (by simp)] at hWR
            have HB := bytes_own hWR.kw (by decide)
            rw [if_neg (by decide)] at HB
            have HBH := Lib.hid HB
            have hb1 := hWR.b
            clear HB hWR Hs0
            rcases hno with hno | hno
            · go_wp2_with (first
                | (go_at_call 12; ((with_reducible refine HBH.out.mono ?_); rintro x W14 ⟨a14, c14, rfl, _, _, _, _, hb14⟩; replace hb1 := bthen hb1 hb14))
                | (go_at_call 14; ((with_reducible refine (known_any _).mono ?_); rintro x W15 ⟨rfl, hb15⟩; replace hb1 := bthen hb1 hb15)))
              go_ret
              exact ⟨ret_bool (by simp), bthen hbel hb1⟩
            · have hno0 : 0 ≤ n := by omega
              have hno1 : 65536 ≤ n := by omega
              go_wp2_with (first
                | (go_at_call 12; ((with_reducible refine HBH.out.mono ?_); rintro x W14 ⟨a14, c14, rfl, _, _, _, _, hb14⟩; replace hb1 := bthen hb1 hb14))
                | (go_at_call 14; ((with_reducible refine (known_any _).mono ?_); rintro x W15 ⟨rfl, hb15⟩; replace hb1 := bthen hb1 hb15)))
              go_ret
              exact ⟨ret_bool (by simp), bthen hbel hb1⟩
    · have he' : (e2 == 0) = false := by simpa using he
      have hdn : doneF l2 e2 = e2 := by unfold doneF; rw [if_neg (fun hh => he hh.1)]
      have HDn := Lib.hid fun (W : World) (h : Rd B W g2 l2 e2) => done_any g2 l2 e2 W (by omega) h
      rw [hdn] at HDn
      clear he hdn hll
      go_loopw [11] (fun i wr => ∃ j : Nat, j ≤ F.length ∧ i = .int .i64 j ∧ WRd wc B wr g1 (wfold 5000 (F.take j) s0) 5000 g2 rb l2 e2) (fun i _ => F.length - (intOf i).toNat)
      case atStart => exact ⟨0, Nat.zero_le _, rfl, hW0⟩
      case round =>
        clear hW0
        obtain ⟨j, hj, rfl, hWR⟩ := hrel
        by_cases hlt : j < F.length
        · obtain ⟨f, hf⟩ := some_at F hlt
          have hgf := hgF f (List.mem_of_getElem? hf)
          have hs := Lib.hid (wfold_take 5000 F j f s0 hf)
          rcases hF with h0 | ⟨b, off, rfl, hc⟩
          · subst h0; simp at hlt
          have Hat := Lib.hid fun (W : World) (h : Below wc.heap.size wc W) => fl_at hc hf h
          obtain ⟨d0, d1, d2⟩ := Hat.out _ hWR.b
          have hltI : (j : Int) < (F.length : Int) := by omega
          have hj0 : (0 : Int) ≤ (j : Int) := Int.natCast_nonneg _
          have hl0 := HLN.out j
          obtain ⟨st, hst⟩ : ∃ st, st = wfold 5000 (F.take j) s0 := ⟨_, rfl⟩
          rw [← hst] at hWR hs hl0
          have HC := Lib.hid (hWR.put (s' := wput 5000 (fb f) st) fun q hq => put_any g1 q st.1 st.2 5000 f wr hq (by omega) (by decide) (by decide) hgf)
          clear hc hf hst hWR hl0
          go_upto_region 11 with (go_at_call 11; ((with_reducible refine HC.out.mono ?_); rintro x W8 ⟨rfl, hW8⟩))
          obtain ⟨q0, q1, _⟩ := Hat.out _ hW8.b
          have hbW : Below W8.heap.size W8 W8 := Below.refl _ _
          have HG := Lib.hid fun (W : World) (h : Below W8.heap.size W8 W) => (get_bad (g := g2) (e := e2) (w := W) f.1 f.2.1 hgf.1 he' (bsome h hW8.r.err (World.block_lt_of_cell? _ _ hW8.r.err))).mono fun x w' hx => (⟨hx.1, bsome (bthen h hx.2) q0 (World.block_lt_of_cell? _ _ q0), bsome (bthen h hx.2) q1 (World.block_lt_of_cell? _ _ q1), bthen h hx.2⟩ : x = Ending.returned (.tuple #[.int .u64 0, .string ⟨#[]⟩]) ∧ w'.cell? ⟨b, off + j * 3, none⟩ = some (.int .i64 f.1) ∧ w'.cell? ⟨b, off + j * 3 + 1, none⟩ = some (.int .u64 f.2.1) ∧ Below W8.heap.size W8 w')
          go_region_held3 (fun w' => w'.cell? ⟨b, off + j * 3, none⟩ = some (.int .i64 f.1) ∧ w'.cell? ⟨b, off + j * 3 + 1, none⟩ = some (.int .u64 f.2.1)) (first | (refine ⟨?_, ?_⟩ <;> assumption) | go_keep)
            (first
              | (go_at_call 17; ((with_reducible refine (HG.out _ (bdrx hbW)).mono ?_); rintro x W9 ⟨rfl, p0, p1, hb9⟩))
              | fail)
          replace hW8 := hW8.below hb9
          have hrd := hW8.r.rd
          go_wp2_with (first
            | (go_at_call 20; ((with_reducible refine (err_any g2 l2 e2 _ hrd).mono ?_); rintro x W10 ⟨rfl, rfl⟩))
            | (go_at_call 19; ((with_reducible refine (left_any g2 l2 e2 _ hrd).mono ?_); rintro x W11 ⟨rfl, rfl⟩))
            | (go_at_call 21; ((with_reducible refine (HDn.out _ hrd).mono ?_); rintro x W12 ⟨rfl, rfl⟩)))
          go_roundw
          case rel => exact ⟨j + 1, by omega, by go_num, by rw [hs.out]; exact hW8⟩
          case measure => simp [intOf]; omega
        · have hjn : j = F.length := by omega
          rw [hjn, List.take_length] at hWR
          have hgeI : (F.length : Int) ≤ (j : Int) := by omega
          clear hjn hj
          rcases Hs0.out with ⟨n0, n1, k2, k3⟩ | ⟨hno, rfl⟩
          · obtain ⟨sl, se⟩ := s0
            simp only at k2 k3
            subst k2
            have hfit : wfold 5000 F (sl, 0) = (sl ++ allB F, 0) := wfold_fits 5000 F sl (by have := allB_len F hgF; omega)
            rw [hfit] at hWR
            have hlenc : 2 ≤ (sl ++ allB F).length := by rw [List.length_append]; omega
            have hlenI : (2 : Int) ≤ ((sl ++ allB F).length : Int) := by omega
            have HB := bytes_own hWR.kw (by have := allB_len F hgF; simp only [List.length_append]; omega)
            simp only [if_true] at HB
            generalize (sl ++ allB F) = sb at *
            have HBH := Lib.hid HB
            have hb1 := hWR.b
            have n2 : n < 65536 := by omega
            clear HB hfit k3 hWR Hs0
            go_wp2_with (first
              | (go_at_call 12; ((with_reducible refine HBH.out.mono ?_); rintro x W14 ⟨a14, c14, rfl, _, _, _, _, hb14⟩; replace hb1 := bthen hb1 hb14))
              | (go_at_call 14; ((with_reducible refine (known_any _).mono ?_); rintro x W15 ⟨rfl, hb15⟩; replace hb1 := bthen hb1 hb15)))
            go_ret
            exact ⟨ret_bool (by simp), bthen hbel hb1⟩
          · rw [wfold_bad _ _ _ (by simp)] at hWR
            have HB := bytes_own hWR.kw (by decide)
            rw [if_neg (by decide)] at HB
            have HBH := Lib.hid HB
            have hb1 := hWR.b
            clear HB hWR Hs0
            rcases hno with hno | hno
            · go_wp2_with (first
                | (go_at_call 12; ((with_reducible refine HBH.out.mono ?_); rintro x W14 ⟨a14, c14, rfl, _, _, _, _, hb14⟩; replace hb1 := bthen hb1 hb14))
                | (go_at_call 14; ((with_reducible refine (known_any _).mono ?_); rintro x W15 ⟨rfl, hb15⟩; replace hb1 := bthen hb1 hb15)))
              go_ret
              exact ⟨ret_bool (by simp), bthen hbel hb1⟩
            · have hno0 : 0 ≤ n := by omega
              have hno1 : 65536 ≤ n := by omega
              go_wp2_with (first
                | (go_at_call 12; ((with_reducible refine HBH.out.mono ?_); rintro x W14 ⟨a14, c14, rfl, _, _, _, _, hb14⟩; replace hb1 := bthen hb1 hb14))
                | (go_at_call 14; ((with_reducible refine (known_any _).mono ?_); rintro x W15 ⟨rfl, hb15⟩; replace hb1 := bthen hb1 hb15)))
              go_ret
              exact ⟨ret_bool (by simp), bthen hbel hb1⟩
end Go.Proofs.Ytapeejndekoicaa.ww
