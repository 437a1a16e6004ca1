/-
  The walks of layer 12: Trim's closures.
-/
import Derived.Test.YtpbdgfgjlccapaaChnF
namespace Go.Proofs.Ytpbdgfgjlccapaa.cw
open Go.RowKit Go.Proofs.Ytpbdgfgjlccapaa.ba Go.Proofs.Ytpbdgfgjlccapaa.rp Go.Proofs.Ytpbdgfgjlccapaa.rw Go.Proofs.Ytpbdgfgjlccapaa.cp
set_option maxRecDepth 8000
set_option linter.unusedVariables false

theorem mkfn (fn : Fn) (first cap : Array Value) (w : World) : (Instr.makeFunc fn first cap).run Try.prog w = .ok (.func fn first cap) w := rfl
set_option maxHeartbeats 2000000 in
theorem less_any (b : Nat) (a p : Int) (w : World) (hc : w.cell? ⟨b, 0, none⟩ = some (.int .u64 a)) :
    Calls Try.prog 27 #[.int .u64 p, .pointer (some ⟨b, 0, none⟩)] w fun e w' => e = .returned (.bool (decide (p < a))) ∧ w = w' := by
  go_enter Try.func27, Try.ntmps27
  go_wp2_with fail
  go_ret
  exact ⟨rfl, rfl⟩

set_option maxRecDepth 100000 in
set_option maxHeartbeats 2000000 in
theorem index_any (b : Nat) (a : Int) (pa : Option Addr) (n c : Nat) (P : List Int) (w : World) (hn : P.length = n) (hl : n ≤ 1000000) (hP : Lst .u64 w pa P) (hc : w.cell? ⟨b, 0, none⟩ = some (.int .u64 a)) :
    Calls Try.prog 34 #[.slice pa n c, .func (.func 27) #[] #[.pointer (some ⟨b, 0, none⟩)]] w
      fun e w' => (∃ i : Int, e = .returned (.int .i64 i) ∧ (decide (0 ≤ i)) = P.any fun p => decide (p < a)) ∧ w = w' := by
  subst hn
  have HL := Lib.hid fun (p : Int) => less_any b a p w hc
  go_enter Try.func34, Try.ntmps34
  go_wp2_with fail
  go_loopw [8] (fun i wr => ∃ k : Nat, k ≤ P.length ∧ i = .int .i64 k ∧ (P.take k).any (fun p => decide (p < a)) = false ∧ wr = w) (fun i _ => P.length - (intOf i).toNat)
  case atStart => exact ⟨0, Nat.zero_le _, rfl, rfl, rfl⟩
  case round =>
    obtain ⟨k, hk, rfl, hno, rfl⟩ := hrel
    by_cases hlt : k < P.length
    · obtain ⟨p, hp⟩ : ∃ p, P[k]? = some p := ⟨_, List.getElem?_eq_getElem hlt⟩
      have htk : P.take (k + 1) = P.take k ++ [p] := by
        obtain ⟨h1, h2⟩ := List.getElem?_eq_some_iff.1 hp
        rw [List.take_succ_eq_append_getElem h1, h2]
      rcases hP with h0 | ⟨pb, off, rfl, hcs⟩
      · subst h0; simp at hlt
      have c0 := hcs k p hp
      have hlti : (k : Int) < (P.length : Int) := by omega
      have HNO := Lib.hid hno
      have HTK := Lib.hid htk
      have HMEM := Lib.hid (List.mem_of_getElem? hp)
      clear hno htk hcs
      rcases Int.lt_or_le p a with hpa | hpa
      · go_wp2_with (go_at_call 27; ((with_reducible refine (HL.out _).mono ?_); rintro x w1 ⟨rfl, rfl⟩))
        go_ret
        refine ⟨⟨_, rfl, ?_⟩, rfl⟩
        have : P.any (fun p => decide (p < a)) = true := List.any_eq_true.2 ⟨p, HMEM.out, by simpa using hpa⟩
        rw [this]
        simp
      · have hnp : ¬ p < a := by omega
        go_wp2_with (go_at_call 27; ((with_reducible refine (HL.out _).mono ?_); rintro x w1 ⟨rfl, rfl⟩))
        go_roundw
        case rel => exact ⟨k + 1, by omega, by go_num, by rw [HTK.out, List.any_append, HNO.out]; simpa using hpa, by first | rfl | trivial⟩
        case measure => simp [intOf]; omega
    · have hke : k = P.length := by omega
      subst hke
      rw [List.take_length] at hno
      have HNO := Lib.hid hno
      clear hno
      go_wp2_with fail
      go_ret
      exact ⟨⟨_, rfl, by rw [HNO.out]; rfl⟩, rfl⟩

set_option maxRecDepth 100000 in
set_option maxHeartbeats 2000000 in
theorem contains_any (b : Nat) (a : Int) (pa : Option Addr) (n c : Nat) (P : List Int) (w : World) (hn : P.length = n) (hl : n ≤ 1000000) (hP : Lst .u64 w pa P) (hc : w.cell? ⟨b, 0, none⟩ = some (.int .u64 a)) :
    Calls Try.prog 26 #[.slice pa n c, .func (.func 27) #[] #[.pointer (some ⟨b, 0, none⟩)]] w
      fun e w' => e = .returned (.bool (P.any fun p => decide (p < a))) ∧ w = w' := by
  have HI := Lib.hid (index_any b a pa n c P w hn hl hP hc)
  clear hP
  go_enter Try.func26, Try.ntmps26
  go_wp2_with ((with_reducible refine HI.out.mono ?_); rintro x w1 ⟨⟨i, rfl, hi⟩, rfl⟩; have HII := Lib.hid hi; clear hi)
  go_ret
  exact ⟨ret_bool HII.out, rfl⟩

/-- May this one go from the head? -/
def idleF (P : List Int) (v : V) : Bool := v.d && !(P.any fun p => decide (p < v.a))
set_option maxRecDepth 100000 in
set_option maxHeartbeats 4000000 in
theorem idle_any (b : Nat) (v : V) (pa : Option Addr) (n c : Nat) (P : List Int) (w : World) (hn : P.length = n) (hl : n ≤ 1000000) (hP : Lst .u64 w pa P) (hc : w.cell? ⟨b, 0, none⟩ = some (.slice pa n c)) :
    Calls Try.prog 25 #[.agg #[.int .u64 v.a, .bool v.d, .int .u8 v.r.k, .int .u8 v.r.s, .int .u8 v.r.u, .int .u8 v.r.p, .int .u8 v.r.m, .bool v.r.g, .int .u32 v.r.v, .int .u64 v.r.a, .string v.r.t], .pointer (some ⟨b, 0, none⟩)] w fun e w' => e = .returned (.bool (idleF P v)) ∧ Below w.heap.size w w' := by
  have hb0 : Below w.heap.size w (w.alloc (.cells (#[.int .u64 v.a, .bool v.d, .int .u8 v.r.k, .int .u8 v.r.s, .int .u8 v.r.u, .int .u8 v.r.p, .int .u8 v.r.m, .bool v.r.g, .int .u32 v.r.v, .int .u64 v.r.a, .string v.r.t]) 43)) := (Below.refl _ _).alloc (Nat.le_refl _) _
  have hblt := World.block_lt_of_cell? _ _ hc
  have hc1 := bsome hb0 hc hblt
  have HC := Lib.hid (contains_any w.heap.size v.a pa n c P _ hn hl (hP.below hb0) (vat_new w v).1)
  have HID : idleF P v = (v.d && !(P.any fun p => decide (p < v.a))) := rfl
  have hmk := mkfn (.func 27) #[] #[.pointer (some ⟨w.heap.size, 0, none⟩)]
  have HB0 := Lib.hid hb0
  clear hP hb0
  cases hd : v.d with
  | false =>
    rw [hd] at HID
    rw [hd] at HB0
    have HIDD := Lib.hid HID
    clear HID
    go_enter Try.func25, Try.ntmps25
    go_wp2_with fail
    go_ret
    exact ⟨ret_bool (by rw [HIDD.out]; rfl), HB0.out⟩
  | true =>
    rw [hd] at HID
    rw [hd] at HB0
    rw [hd] at HC
    have HIDD := Lib.hid HID
    clear HID
    go_enter Try.func25, Try.ntmps25
    go_wp2_with ((with_reducible refine HC.out.mono ?_); rintro x w1 ⟨rfl, rfl⟩)
    go_ret
    exact ⟨ret_bool (by rw [HIDD.out]; rfl), HB0.out⟩
end Go.Proofs.Ytpbdgfgjlccapaa.cw
