/-
  The walk of the law RecordBack.
-/
import Derived.Test.YtaekpejpcafnkaaRecS
import Derived.Test.YtaekpejpcafnkaaRecU
import Derived.Test.YtaekpejpcafnkaaRecP
import Derived.Deep.QuietTactic
import Derived.BigQuiet
namespace Go.Proofs.Ytaekpejpcafnkaa.rw
open Go.RowKit Go.Proofs.Ytaekpejpcafnkaa.ba Go.Proofs.Ytaekpejpcafnkaa.rp Go.Proofs.Ytaekpejpcafnkaa.dp Go.Proofs.Ytaekpejpcafnkaa.dw Go.Proofs.Ytaekpejpcafnkaa.wp Go.Proofs.Ytaekpejpcafnkaa.ww
set_option maxRecDepth 8000
set_option linter.unusedVariables false
attribute [local go_sem ↓] Go.wp_at_zero Go.wp_at_succ

theorem bytes_smaK' : ∀ f n, Bytes (smaK f n) := by
  intro f
  induction f with
  | zero => intro n v hv; simp [smaK] at hv
  | succ f ih =>
    intro n v hv
    rw [smaK] at hv
    split at hv
    · simp at hv; omega
    · rcases List.mem_cons.1 hv with rfl | h
      · omega
      · exact ih _ v h
theorem bytes_strL' (s : ByteArray) : Bytes (strL s) := by
  intro v hv
  unfold strL at hv
  obtain ⟨b, _, rfl⟩ := List.mem_map.1 hv
  have := b.toNat_lt
  omega
theorem bytes_fbR {r : R} (hr : r.ok) (x : Nat × Nat) : Bytes (fbR r x) := by
  intro v hv
  unfold fbR at hv
  have h2 := hr.s; have h3 := hr.u; have h4 := hr.p; have h5 := hr.m
  split at hv
  · simp at hv
    subst hv
    unfold u8At
    repeat' split
    all_goals assumption
  split at hv
  · simp at hv; subst hv; unfold gB; split <;> omega
  split at hv
  · exact bytes_smaK' _ _ v hv
  split at hv
  · exact bytes_smaK' _ _ v hv
  · rcases List.mem_append.1 hv with h | h
    · exact bytes_smaK' _ _ v h
    · exact bytes_strL' _ v h
theorem bytes_encR {r : R} (hr : r.ok) : Bytes (encR r) := by
  rw [encR_eq]
  intro v hv
  rcases List.mem_cons.1 hv with rfl | h
  · exact hr.k
  · obtain ⟨x, _, hx⟩ := List.mem_flatMap.1 h
    exact bytes_fbR hr x v hx
theorem bytes_all {l : List R} (h : ∀ r ∈ l, r.ok) : Bytes (l.flatMap encR) := fun v hv => by
  obtain ⟨r, hr, hx⟩ := List.mem_flatMap.1 hv
  exact bytes_encR (h r hr) v hx
/-- Either all are right, or there are no bytes. -/
theorem recF_ways : ∀ (l : List R) (acc : List Int), ((∀ r ∈ l, checkF r = 0) ∧ recF l acc = (acc ++ l.flatMap encR, 0)) ∨ ((recF l acc).1 = [] ∧ (recF l acc).2 ≠ 0) := by
  intro l
  induction l with
  | nil => exact fun acc => .inl ⟨by simp, by simp [recF]⟩
  | cons r l ih =>
    intro acc
    rw [recF]
    by_cases h : checkF r = 0
    · rw [if_pos h]
      rcases ih (acc ++ encR r) with ⟨h1, h2⟩ | h2
      · exact .inl ⟨fun q hq => by
          rcases List.mem_cons.1 hq with rfl | hq
          · exact h
          · exact h1 q hq, by rw [h2]; simp⟩
      · exact .inr h2
    · rw [if_neg h]
      exact .inr ⟨rfl, h⟩
theorem recs_take {w : World} {a : Option Addr} {l : List R} (h : Recs w a l) (n : Nat) : Recs w a (l.take n) := by
  rcases h with rfl | ⟨b, off, rfl, h⟩
  · exact .inl (by simp)
  · refine .inr ⟨b, off, rfl, fun i r hr => h i r ?_⟩
    rw [List.getElem?_take] at hr
    split at hr
    · exact hr
    · cases hr
theorem len_all (l : List R) (h : ∀ r ∈ l, checkF r = 0) : (l.flatMap encR).length ≤ 100 * l.length := by
  induction l with
  | nil => simp
  | cons r l ih =>
    have h1 := encR_le r (right_parts (h r (by simp))).2.2
    have h2 := ih (fun q hq => h q (by simp [hq]))
    rw [List.flatMap_cons, List.length_append, List.length_cons]
    omega
theorem run_neq_rec (r : R) : ∀ W, (binOp .neq 30 (.agg #[.int .u8 r.k, .int .u8 r.s, .int .u8 r.u, .int .u8 r.p, .int .u8 r.m, .bool r.g, .int .u32 r.v, .int .u64 r.a, .string r.t]) (.agg #[.int .u8 r.k, .int .u8 r.s, .int .u8 r.u, .int .u8 r.p, .int .u8 r.m, .bool r.g, .int .u32 r.v, .int .u64 r.a, .string r.t])).run Try.prog W = .ok (.bool false) W := by
  intro W
  rw [run_neq_struct, run_eq_rec r r W, (eqR_iff r r).2 rfl]
  rfl
set_option maxRecDepth 100000 in
set_option maxHeartbeats 8000000 in
/-- The law behind the cut: of the first m records. -/
theorem recordBack_at (a : Option Addr) (len cap m : Nat) (l : List R) (w : World) (hm : m ≤ 10) (hml : m ≤ len) (hlc : len ≤ cap) (hcm : cap ≤ maxLen) (hlen : l.length = m) (hL : Recs w a l) (hok : ∀ r ∈ l, r.ok)
    (hmin : ∀ W, (Builtin.min_ #[3, 3] 3 #[.int .i64 (len : Int), .int .i64 10]).run Try.prog W = .ok (.int .i64 (m : Int)) W) :
    Calls Try.prog 6 #[.slice a len cap] w fun x w' => x = .returned (.bool true) ∧ Below w.heap.size w w' := by
  have hRB := recbytes_any a m cap l w hlen (by omega) hL hok
  have hm0 : (0 : Int) ≤ (m : Int) := Int.natCast_nonneg _
  have hmc : (m : Int) ≤ (cap : Int) := by omega
  rcases recF_ways l [] with ⟨hall, hr⟩ | ⟨h1, h2⟩
  · rw [List.nil_append] at hr
    obtain ⟨bs, hbs⟩ : ∃ bs, bs = l.flatMap encR := ⟨_, rfl⟩
    have HRB : Hid (Calls Try.prog 11 #[.slice a m cap] w fun x w' => ∃ a4 c4, x = .returned (.tuple #[.slice a4 bs.length c4, .int .i64 0]) ∧ bs.length ≤ c4 ∧ c4 ≤ maxLen ∧ Lst .u8 w' a4 bs ∧ Below w.heap.size w w') :=
      Lib.hid (hRB.mono fun x w' ⟨a4, c4, q1, q2, q3, q4, _, q5⟩ => by
        rw [hr, ← hbs] at q1 q2 q4
        exact ⟨a4, c4, q1, q2, q3, q4, q5⟩)
    have hbl : bs.length ≤ 1000 := by have := len_all l hall; rw [hbs]; omega
    have hbB : Bytes bs := by rw [hbs]; exact bytes_all hok
    have haf : allF bs = (l, 0) := by
      unfold allF
      rw [hbs, all_back l _ [] (fun r hr => ⟨hok r hr, hall r hr⟩) (by omega)]
      rfl
    have HAll : Hid (∀ (W : World) (a4 : Option Addr) (c4 : Nat), bs.length ≤ c4 → c4 ≤ maxLen → Lst .u8 W a4 bs → Calls Try.prog 18 #[.slice a4 bs.length c4] W fun x w' => ∃ a5 c5, x = .returned (.tuple #[.slice a5 m c5, .int .i64 0]) ∧ Recs w' a5 l ∧ Below W.heap.size W w') :=
      Lib.hid fun W a4 c4 q1 q2 q3 => (all_any a4 bs.length c4 bs W rfl (by omega) q1 q2 q3 hbB).mono fun x w' ⟨a5, c5, p1, p2, p3⟩ => by
        rw [haf] at p1 p2
        simp only at p1 p2
        rw [hlen] at p1
        exact ⟨a5, c5, p1, p2, p3⟩
    have HLen := Lib.hid hlen
    have HBS := Lib.hid hbs
    have HALL := Lib.hid hall
    clear hRB hr hbs haf hlen hall
    go_enter Try.func6, Try.ntmps6
    go_wp2_with
      (first
        | (go_at_call 11; ((with_reducible refine HRB.out.mono ?_); rintro x W1 ⟨a4, c4, rfl, q1, q2, q3, q4⟩; have HB1 := Lib.hid q4; have HL1 := Lib.hid q3; clear q3 q4))
        | (go_at_call 18; ((with_reducible refine (HAll.out _ _ _ q1 q2 HL1.out).mono ?_); rintro x W2 ⟨a5, c5, rfl, q5, q6⟩; have HB2 := Lib.hid (bthen HB1.out q6); have HL2 := Lib.hid (HL1.out.below q6); have HR2 := Lib.hid q5; clear q5 q6))
        | fail)
    have hb20 : Below W2.heap.size W2 W2 := Below.refl _ _
    go_loopw [7] (fun i wr => ∃ j : Nat, j ≤ m ∧ i = .int .i64 j ∧ Below W2.heap.size W2 wr) (fun i _ => m - (intOf i).toNat)
    case atStart => exact ⟨0, Nat.zero_le _, rfl, hb20⟩
    case round =>
      obtain ⟨j, hj, rfl, hbel⟩ := hrel
      clear hb20
      by_cases hlt : j < m
      · obtain ⟨r, hrk⟩ := some_at l (i := j) (by rw [HLen.out]; exact hlt)
        have hR2 := HR2.out
        rcases hL with h0 | ⟨b, off, rfl, hc⟩
        · rw [h0] at hrk; simp at hrk
        rcases hR2 with h0 | ⟨b2, off2, rfl, hc2⟩
        · rw [h0] at hrk; simp at hrk
        obtain ⟨c0, c1, c2, c3, c4', c5', c6, c7, c8⟩ := recs_cells (bthen HB2.out hbel) (hc j r hrk)
        obtain ⟨d0, d1, d2, d3, d4, d5, d6, d7, d8⟩ := recs_cells hbel (hc2 j r hrk)
        have hneq := run_neq_rec r
        have hj0 : (0 : Int) ≤ (j : Int) := Int.natCast_nonneg _
        have hj1 : (j : Int) < (m : Int) := by omega
        clear hc hc2 hrk
        go_wp2_with fail
        go_quiet (fail)
        go_wp2_with fail
        go_roundw
        case rel => exact ⟨j + 1, by omega, by go_num, bdrew hbel _⟩
        case measure => simp [intOf]; omega
      · have hjm : j = m := by omega
        subst hjm
        have HW := Lib.hid (bthen HB2.out hbel)
        have HLW := Lib.hid (HL2.out.below hbel)
        rcases Nat.eq_zero_or_pos j with h0 | hpos
        · subst h0
          clear hlt
          go_wp2_with ((with_reducible refine (known_any _).mono ?_); rintro x W3 ⟨rfl, hb3⟩)
          go_ret
          exact ⟨rfl, bthen HW.out hb3⟩
        · obtain ⟨M, rfl⟩ : ∃ M, j = M + 1 := ⟨j - 1, by omega⟩
          obtain ⟨r, hrk⟩ := some_at l (i := M) (by rw [HLen.out]; omega)
          rcases hL with h0 | ⟨b, off, rfl, hc⟩
          · rw [h0] at hrk; simp at hrk
          obtain ⟨c0, c1, c2, c3, c4', c5', c6, c7, c8⟩ := recs_cells HW.out (hc M r hrk)
          clear c1 c2 c3 c4' c5' c6 c7 c8 hc
          by_cases hk3 : r.k = 3
          · have hkb : (r.k == 3) = true := by simpa using hk3
            rw [hk3] at c0
            clear hk3 hkb hlt
            go_wp2_with ((with_reducible refine (known_any _).mono ?_); rintro x W3 ⟨rfl, hb3⟩)
            go_ret
            exact ⟨rfl, bthen HW.out hb3⟩
          · have hkb : (r.k == 3) = false := by simpa using hk3
            have hl2 : l = l.take M ++ [r] := by
              have h1 := drop_at hrk
              have h2 : l.drop (M + 1) = [] := List.drop_eq_nil_of_le (by rw [HLen.out]; omega)
              rw [h2] at h1
              rw [← h1, List.take_append_drop]
            have hmem : ∀ q ∈ l, q.ok ∧ checkF q = 0 := fun q hq => ⟨hok q hq, HALL.out q hq⟩
            have hrm : r ∈ l := List.mem_of_getElem? hrk
            have hbs2 : bs = (l.take M).flatMap encR ++ encR r := by rw [HBS.out]; conv => lhs; rw [hl2]; rw [List.flatMap_append, List.flatMap_singleton]
            have hne : encR r ≠ [] := fun e => by have := encR_pos r; rw [e] at this; simp at this
            have hcut : bs.dropLast = (l.take M).flatMap encR ++ (encR r).dropLast := by rw [hbs2, List.dropLast_append_of_ne_nil hne]
            obtain ⟨N, hN⟩ : ∃ N, bs.length = N + 1 := by
              have h1 := encR_pos r
              have h2 := congrArg List.length hbs2
              rw [List.length_append] at h2
              exact ⟨bs.length - 1, by omega⟩
            have hdl : bs.dropLast.length = N := by rw [List.length_dropLast, hN]; rfl
            have hall2 : allF bs.dropLast = ([], 4) := by
              unfold allF
              rw [hcut]
              exact all_cut r (hmem r hrm).1 (hmem r hrm).2 hk3 (l.take M) _ [] (fun q hq => hmem q (List.mem_of_mem_take hq)) (by omega)
            have hLd : ∀ W, Lst .u8 W a4 bs → Lst .u8 W a4 bs.dropLast := fun W h => by
              rw [List.dropLast_eq_take]
              exact h.take _
            have HAc : Hid (∀ W : World, Below wr.heap.size wr W → Calls Try.prog 18 #[.slice a4 N c4] W fun x w' => ∃ a6 c6, x = .returned (.tuple #[.slice a6 0 c6, .int .i64 4]) ∧ Below W.heap.size W w') :=
              Lib.hid fun W hb => (all_any a4 N c4 bs.dropLast W hdl (by omega) (by omega) q2 (hLd W (HLW.out.below hb)) (fun v hv => hbB v (by rw [List.dropLast_eq_take] at hv; exact List.mem_of_mem_take hv))).mono fun x w' ⟨a6, c6, p1, _, p3⟩ => by
                rw [hall2] at p1
                exact ⟨a6, c6, p1, p3⟩
            have hN0 : (0 : Int) ≤ (N : Int) := Int.natCast_nonneg _
            have hNc : (N : Int) ≤ (c4 : Int) := by omega
            have hN1 : (N : Int) ≤ 1000 := by omega
            have hN2 : wrap64 (N : Int) = (N : Int) := by unfold wrap64; omega
            have HAc2 := Lib.hid (HAc.out wr (Below.refl _ _))
            rw [hN]
            clear hl2 hmem hrm hbs2 hne hcut hN hdl hall2 hLd HAc hk3 hlt hrk hbl
            go_wp2_with
              (first
                | (go_at_call 18; ((with_reducible refine HAc2.out.mono ?_); rintro x W3 ⟨a6, c6, rfl, hb3⟩; have HB3 := Lib.hid (bthen HW.out hb3); clear hb3))
                | (go_at_call 10; ((with_reducible refine (known_any _).mono ?_); rintro x W4 ⟨rfl, hb4⟩))
                | fail)
            go_ret
            exact ⟨rfl, bthen HB3.out hb4⟩
  · obtain ⟨E, hE⟩ : ∃ E, E = (recF l []).2 := ⟨_, rfl⟩
    have HRB : Hid (Calls Try.prog 11 #[.slice a m cap] w fun x w' => ∃ a4 c4, x = .returned (.tuple #[.slice a4 0 c4, .int .i64 E]) ∧ Below w.heap.size w w') :=
      Lib.hid (hRB.mono fun x w' ⟨a4, c4, q1, _, _, _, _, q5⟩ => by
        rw [h1, ← hE] at q1
        exact ⟨a4, c4, q1, q5⟩)
    rw [← hE] at h2
    have he1 : (E != 0) = true := by simpa using h2
    have he2 : (E == 0) = false := by simpa using h2
    clear hRB h1 h2 hE
    go_enter Try.func6, Try.ntmps6
    go_wp2_with
      (first
        | (go_at_call 11; ((with_reducible refine HRB.out.mono ?_); rintro x W1 ⟨a4, c4, rfl, hb1⟩; have HB1 := Lib.hid hb1; clear hb1))
        | (go_at_call 10; ((with_reducible refine (known_any _).mono ?_); rintro x W2 ⟨rfl, hb2⟩))
        | fail)
    go_ret
    exact ⟨rfl, bthen HB1.out hb2⟩
theorem recordBack_any (a : Option Addr) (len cap : Nat) (l : List R) (w : World) (hlc : len ≤ cap) (hcm : cap ≤ maxLen) (hlen : l.length = len) (hL : Recs w a l) (hok : ∀ r ∈ l, r.ok) :
    Calls Try.prog 6 #[.slice a len cap] w fun x w' => x = .returned (.bool true) ∧ Below w.heap.size w w' := by
  by_cases h : (10 : Int) < (len : Int)
  · exact recordBack_at a len cap 10 (l.take 10) w (by decide) (by omega) hlc hcm (by rw [List.length_take]; omega) (recs_take hL 10) (fun r hr => hok r (List.mem_of_mem_take hr)) (fun W => by rw [run_min_int2, if_pos h]; rfl)
  · exact recordBack_at a len cap len l w (by omega) (Nat.le_refl _) hlc hcm hlen hL hok (fun W => by rw [run_min_int2, if_neg h])
end Go.Proofs.Ytaekpejpcafnkaa.rw
