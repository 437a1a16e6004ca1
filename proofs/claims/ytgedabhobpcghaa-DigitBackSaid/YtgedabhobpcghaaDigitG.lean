/-
  The walks of layer 2: rows of numbers as small bytes.
-/
import Derived.Test.YtgedabhobpcghaaDigitF
namespace Go.Proofs.Ytgedabhobpcghaa.dw
open Go.RowKit Go.Proofs.Ytgedabhobpcghaa.ba Go.Proofs.Ytgedabhobpcghaa.dp
set_option linter.unusedVariables false

/-- Numbers of 64 bits. -/
def Words (l : List Int) : Prop := ∀ v ∈ l, 0 ≤ v ∧ v ≤ 18446744073709551615
def smaR (l : List Int) : List Int := l.flatMap fun v => smaL v.toNat
theorem smaR_snoc (l : List Int) (v : Int) : smaR (l ++ [v]) = smaR l ++ smaL v.toNat := by simp [smaR, List.flatMap_append]
theorem smaR_len (l : List Int) : (smaR l).length ≤ 10 * l.length := by
  induction l with
  | nil => simp [smaR]
  | cons x xs ih =>
    have h : smaR (x :: xs) = smaL x.toNat ++ smaR xs := by simp [smaR]
    have h2 := smaK_len 10 x.toNat
    rw [h, List.length_append, List.length_cons]
    unfold smaL
    omega

set_option maxHeartbeats 1000000 in
set_option maxRecDepth 20000 in
theorem rowS_any (a : Option Addr) (cap : Nat) (l : List Int) (w : World) (hl : l.length ≤ 1000) (hW : Words l) (hX : Lst .u64 w a l) :
    Calls Try.prog 23 #[.slice a l.length cap, .func (.func 25) #[] #[]] w fun x w' => OwnB w.heap.size w w' (smaR l) x := by
  go_enter Try.func23, Try.ntmps23
  go_wp2_with fail
  go_loopw [5, 10] (fun o i wr => ∃ (k : Nat), k ≤ l.length ∧ i = .int .i64 k ∧ wr.ownsRow w.heap.size 5 1 o (smaR (l.take k)).length ((smaR (l.take k)).map (Value.int .u8)) ∧ Below w.heap.size w wr) (fun _ i _ => l.length - (intOf i).toNat)
  case atStart => exact ⟨0, Nat.zero_le _, rfl, World.ownsRow_nil _ _ _ _, Below.refl _ _⟩
  case round =>
    obtain ⟨k, hk, rfl, hown, hbel⟩ := hrel
    by_cases hlt : k < l.length
    · obtain ⟨x, hx⟩ := some_at l hlt
      have hxb := hW x (List.mem_of_getElem? hx)
      obtain ⟨X, rfl⟩ := Int.eq_ofNat_of_zero_le hxb.1
      obtain ⟨b, off, rfl, c0⟩ := hX.at hx
      have d0 := bsome hbel c0 (World.block_lt_of_cell? w _ c0)
      have hlen := smaR_len (l.take k)
      have hlk : (l.take k).length ≤ 1000 := by simp; omega
      have hs : Hid (smaR (l.take (k + 1)) = smaR (l.take k) ++ smaL X) := by show _ = _; rw [take_succ_at hx, smaR_snoc]; rfl
      have hz := hbel.size
      clear c0
      go_wp2_with (go_at_call 25; refine (small1_any w.heap.size _ (smaR (l.take k)) X _ hz (by omega) (by omega) hown).mono ?_; rintro x W1 ⟨a2, c2, rfl, hown2, hb2⟩)
      go_roundw
      case rel => exact ⟨k + 1, by omega, by go_num, by rw [hs.out]; simpa only [List.length_append] using hown2, hbel.trans hb2⟩
      case measure => simp [intOf]; omega
    · have : k = l.length := by omega
      subst this
      rw [List.take_length] at hown
      obtain ⟨a2, c2, hv, _, _⟩ := own_form hown
      subst hv
      go_wp2_with fail
      go_ret
      exact ⟨a2, c2, rfl, hown, hbel⟩

theorem small_any (a : Option Addr) (cap : Nat) (l : List Int) (w : World) (hl : l.length ≤ 1000) (hW : Words l) (hX : Lst .u64 w a l) :
    Calls Try.prog 14 #[.slice a l.length cap] w fun x w' => OwnB w.heap.size w w' (smaR l) x := by
  go_enter Try.func14, Try.ntmps14
  go_wp2_with fail
  refine (rowS_any a cap l w hl hW hX).mono ?_
  rintro x W1 ⟨a2, c2, rfl, hown, hb⟩
  go_wp2_with fail
  go_ret
  exact ⟨a2, c2, rfl, hown, hb⟩
end Go.Proofs.Ytgedabhobpcghaa.dw
