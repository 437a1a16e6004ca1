/-
  The walks of layer 2: rows of numbers as ordered bytes.
-/
import Derived.Test.YtgedabhobpcghaaDigitH
namespace Go.Proofs.Ytgedabhobpcghaa.dw
open Go.RowKit Go.Proofs.Ytgedabhobpcghaa.ba Go.Proofs.Ytgedabhobpcghaa.dp Go.Proofs.Ytgedabhobpcghaa.bp
set_option linter.unusedVariables false

def ordR (l : List Int) : List Int := l.flatMap fun v => ordL v.toNat
theorem ordR_snoc (l : List Int) (v : Int) : ordR (l ++ [v]) = ordR l ++ ordL v.toNat := by simp [ordR, List.flatMap_append]
theorem sizeO_le (n : Nat) (h : n < 18446744073709551616) : sizeO n ≤ 8 := (topW_size n h).2
theorem ordR_len (l : List Int) (hW : Words l) : (ordR l).length ≤ 10 * l.length := by
  induction l with
  | nil => simp [ordR]
  | cons x xs ih =>
    have ih := ih (fun v hv => hW v (by simp [hv]))
    have h : ordR (x :: xs) = ordL x.toNat ++ ordR xs := by simp [ordR]
    have h2 : (ordL x.toNat).length ≤ 9 := by
      have h4 := sizeO_le x.toNat (by have := hW x (by simp); omega)
      rw [ordL, List.length_cons, beB_len]
      omega
    rw [h, List.length_append, List.length_cons]
    omega

set_option maxHeartbeats 1000000 in
set_option maxRecDepth 20000 in
theorem rowO_any (a : Option Addr) (cap : Nat) (l : List Int) (w : World) (hl : l.length ≤ 1000) (hW : Words l) (hX : Lst .u64 w a l) :
    Calls Try.prog 23 #[.slice a l.length cap, .func (.func 24) #[] #[]] w fun x w' => OwnB w.heap.size w w' (ordR l) x := by
  go_enter Try.func23, Try.ntmps23
  go_wp2_with fail
  go_loopw [5, 10] (fun o i wr => ∃ (k : Nat), k ≤ l.length ∧ i = .int .i64 k ∧ wr.ownsRow w.heap.size 5 1 o (ordR (l.take k)).length ((ordR (l.take k)).map (Value.int .u8)) ∧ Below w.heap.size w wr) (fun _ i _ => l.length - (intOf i).toNat)
  case atStart => exact ⟨0, Nat.zero_le _, rfl, World.ownsRow_nil _ _ _ _, Below.refl _ _⟩
  case round =>
    obtain ⟨k, hk, rfl, hown, hbel⟩ := hrel
    by_cases hlt : k < l.length
    · obtain ⟨x, hx⟩ := some_at l hlt
      have hxb := hW x (List.mem_of_getElem? hx)
      obtain ⟨X, rfl⟩ := Int.eq_ofNat_of_zero_le hxb.1
      obtain ⟨b, off, rfl, c0⟩ := hX.at hx
      have d0 := bsome hbel c0 (World.block_lt_of_cell? w _ c0)
      have hlen := ordR_len (l.take k) (fun v hv => hW v (List.mem_of_mem_take hv))
      have hlk : (l.take k).length ≤ 1000 := by simp; omega
      have hs : Hid (ordR (l.take (k + 1)) = ordR (l.take k) ++ ordL X) := by show _ = _; rw [take_succ_at hx, ordR_snoc]; rfl
      have hz := hbel.size
      clear c0
      go_wp2_with (go_at_call 24; refine (ord1_any w.heap.size _ (ordR (l.take k)) X _ hz (by omega) (by omega) hown).mono ?_; rintro x W1 ⟨a2, c2, rfl, hown2, hb2⟩)
      go_roundw
      case rel => exact ⟨k + 1, by omega, by go_num, by rw [hs.out]; simpa only [List.length_append] using hown2, hbel.trans hb2⟩
      case measure => simp [intOf]; omega
    · have : k = l.length := by omega
      subst this
      rw [List.take_length] at hown
      obtain ⟨a2, c2, hv, _, _⟩ := own_form hown
      subst hv
      go_wp2_with fail
      go_ret
      exact ⟨a2, c2, rfl, hown, hbel⟩

theorem ordered_any (a : Option Addr) (cap : Nat) (l : List Int) (w : World) (hl : l.length ≤ 1000) (hW : Words l) (hX : Lst .u64 w a l) :
    Calls Try.prog 13 #[.slice a l.length cap] w fun x w' => OwnB w.heap.size w w' (ordR l) x := by
  go_enter Try.func13, Try.ntmps13
  go_wp2_with fail
  refine (rowO_any a cap l w hl hW hX).mono ?_
  rintro x W1 ⟨a2, c2, rfl, hown, hb⟩
  go_wp2_with fail
  go_ret
  exact ⟨a2, c2, rfl, hown, hb⟩
end Go.Proofs.Ytgedabhobpcghaa.dw
